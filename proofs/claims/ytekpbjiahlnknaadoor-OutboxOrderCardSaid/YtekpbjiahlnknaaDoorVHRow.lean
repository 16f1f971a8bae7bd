/- A call's arguments, opened: rows of bytes, numbers. Its conditions: none. -/
import Derived.Test.YtekpbjiahlnknaaDoorVHClr
import Derived.ChangeSlices
import Derived.ChangeArms
import Derived.Below
import Derived.Deep.Slices
import Derived.Deep.SlicePairs
namespace Go.H
open Go.ChangeShapes Go.WideShapes

theorem Rd.of_cells {h : Heap} {a : Addr} {c : List Value} (hc : ∀ i, i < c.length → cellAt h (a.add i) = c[i]?) : Rd h (some a) c := by
  by_cases h0 : c = []
  · exact .inl h0
  right
  have hl : 0 < c.length := by
    rcases Nat.eq_zero_or_pos c.length with h1 | h1
    · exact absurd (List.length_eq_zero_iff.1 h1) h0
    · exact h1
  have h1 := hc 0 hl
  rw [add_zero', List.getElem?_eq_getElem hl] at h1
  obtain ⟨b, o, s⟩ := a
  cases s with
  | some s =>
    exfalso
    unfold cellAt at h1
    dsimp only at h1
    split at h1 <;> simp at h1
  | none =>
    rw [cellAt_eq] at h1
    cases hb : h[b]? with
    | none => rw [hb] at h1; cases h1
    | some x =>
      cases x with
      | cells cs t f =>
        refine ⟨b, o, cs, t, f, rfl, hb, fun i hi => ?_⟩
        have := hc i hi
        rw [add_none, cellAt_eq, hb] at this
        exact this
      | _ => rw [hb] at h1; cases h1

section
variable {H : Type} {enc : TypeId × Value → H} {P : Program} {w : World} {base : Nat} {spare : Nat → Bool} {held : Bool}

theorem Bs_of_trod {t e : TypeId} {fuel : Nat} {v : Value} {x : DataW H × List MemPlace} (ht : P.underlying t = some (.slice e)) (he : P.underlying e = some (.int .u8)) (hc : P.cellsOf e = 1)
    (h : DataW.trod enc P w base spare held fuel t [v] = some x) : ∃ l, Bs w.heap v l := by
  rcases open_ints ht he hc h with ⟨hcs, _⟩ | ⟨a, len, cap, zs, hcs, _, hl, _, hz, _, hcell, hw⟩
  · obtain rfl : v = .slice none 0 0 := by simpa using hcs
    exact ⟨[], ⟨⟨none, 0, rfl, Nat.le_refl _, fun _ => rfl, .inl rfl⟩, rfl⟩, by simp⟩
  · obtain rfl : v = .slice (some a) len cap := by simpa using hcs
    have hlz : len ≤ zs.length := by rw [hz]; split <;> omega
    have hwf : ∀ n ∈ zs, 0 ≤ n ∧ n < 256 := fun n hn => by
      have := hw n hn
      simp [Lit.wf, IntKind.min, IntKind.max, IntKind.signed, IntKind.bits] at this
      omega
    have hlen : ((zs.take len).map Int.toNat).length = len := by simp; omega
    refine ⟨(zs.take len).map Int.toNat, ?_, ?_⟩
    · rw [hlen]
      refine ⟨⟨some a, cap, rfl, hl, fun h => (by cases h), Rd.of_cells fun i hi => ?_⟩, by simp; omega⟩
      rw [List.length_map, hlen] at hi
      have hi' : i < zs.length := by omega
      have h1 : cellAt w.heap (a.add i) = some (.int .u8 (zs.getD i 0)) := hcell i hi'
      rw [h1, List.getElem?_map, List.getElem?_map, List.getElem?_take, if_pos hi, List.getElem?_eq_getElem hi']
      have := (hwf zs[i] (List.getElem_mem hi')).1
      simp only [Option.map_some, u8, List.getD, List.getElem?_eq_getElem hi', Option.getD_some, Int.toNat_of_nonneg this]
    · intro x hx
      simp only [List.mem_map] at hx
      obtain ⟨n, hn, rfl⟩ := hx
      have := hwf n (List.mem_of_mem_take hn)
      omega
end
end Go.H
namespace Go.H
open Go.RowKit
theorem Below.ofKeep {w w' : World} (r : Rest w w') (k : Keep w.heap w'.heap []) : Below w.heap.size w w' :=
  ⟨r.os, r.tape, r.output, k.size, fun b hb => k.old b hb (by simp)⟩
/-- What a law's walk over the heap gives: true, and what was there is as it was. -/
theorem CallsH.law {P : Program} {f : FuncId} {args : Array Value} {w : World} (hc : CallsH P f args w.heap (fun r h' => r = .bool true ∧ Keep w.heap h' [])) :
    Calls P f args w fun e w' => e = .returned (.bool true) ∧ Below w.heap.size w w' :=
  (hc w rfl).mono fun _ _ ⟨_, he, ⟨hv, hk⟩, hr⟩ => ⟨by rw [he, hv], Below.ofKeep hr hk⟩
end Go.H
