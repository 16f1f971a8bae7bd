/- For every row of frames, any credit and any size of pieces the law OutboxOrder returns true, and what was there is as it was. Its conditions: those of the given row. -/
import Derived.Test.YtekpbjiahlnknaaDoorRows
import Derived.Test.YtekpbjiahlnknaaDoorTie
import Derived.Test.YtekpbjiahlnknaaDoorCards
import Derived.Test.YtekpbjiahlnknaaDoorVObLaw
import Derived.Test.YtekpbjiahlnknaaDoorVHRow
import Derived.ChangeSame
import Derived.ChangeVars
import Derived.JoinedOf
import Derived.RowKit
import Derived.RowKitTokens
import Derived.LaidLaws
import Derived.LaidHandle
import Derived.OpenShut
import Derived.Carry
import Derived.SevenTiedAt
import Derived.Stop.Joined
namespace Go.Proofs.YtekpbjiahlnknaaDoor
open Go.ChangeShapes Go.WideShapes Go.RowKit Go.H
open Go.Proofs.Tryd (Fra fcells Fs)
set_option linter.unusedVariables false

theorem Fs_of_trod {H : Type} {enc : TypeId × Value → H} {w : World} {base fuel : Nat} {spare : Nat → Bool} {held : Bool} {v : Value} {x : DataW H × List MemPlace}
    (h : DataW.trod enc Tryd.prog w base spare held fuel 22 [v] = some x) : ∃ fs vs, Fs w.heap v fs vs := by
  rcases Deep.open_slice_pairs Tryd.underlying22 Tryd.underlying26 (by kernel_rfl) rfl rfl (by kernel_rfl) (by kernel_rfl) h with ⟨hcs, _⟩ | ⟨a, len, cap, m, n, V0, V1, D0, D1, P0, P1, hcs, _, hl, _, hm, _, hx⟩
  · obtain rfl : v = .slice none 0 0 := by simpa using hcs
    exact ⟨[], [], ⟨⟨⟨none, 0, rfl, Nat.le_refl _, fun _ => rfl, .inl rfl⟩, rfl⟩, rfl, fun i f w h1 _ => by simp at h1⟩⟩
  · obtain rfl : v = .slice (some a) len cap := by simpa using hcs
    have hlm : len ≤ m := by rw [hm]; split <;> omega
    obtain ⟨F, hF⟩ := Deep.choose_lt (α := Nat × List Nat) (n := len) (p := fun i q => V0 i = u8 q.1 ∧ q.1 < 256 ∧ Bs w.heap (V1 i) q.2) (fun i hi => by
      obtain ⟨_, _, g0, g1⟩ := hx i (by omega)
      obtain ⟨k, e1, _, e3⟩ := DataW.trod_int Tryd.underlying5 g0
      obtain ⟨l, hl⟩ := Bs_of_trod Tryd.underlying24 Tryd.underlying5 (by kernel_rfl) g1
      have h3 : 0 ≤ k ∧ k < 256 := by
        simp [Lit.wf, IntKind.min, IntKind.max, IntKind.signed, IntKind.bits] at e3
        omega
      refine ⟨(k.toNat, l), ?_, by dsimp only; omega, hl⟩
      have e1' : V0 i = .int .u8 k := by simpa using e1
      rw [e1']
      show Value.int _ _ = Value.int _ _
      congr 1
      omega)
    refine ⟨(List.range len).map fun i => ⟨(F i).1, (F i).2⟩, (List.range len).map V1, ⟨⟨⟨some a, cap, by simp, by simpa using hl, fun h => (by cases h), ?_⟩, ?_⟩, by simp, ?_⟩⟩
    · refine Rd.of_cells fun k hk => ?_
      rw [Tryd.fcells_length _ _ (by simp)] at hk
      simp only [List.length_map, List.length_range] at hk
      have hi : k / 2 < len := by omega
      obtain ⟨c0, c1, _, _⟩ := hx (k / 2) (by omega)
      have q := Tryd.fcells_get ((List.range len).map fun i => (⟨(F i).1, (F i).2⟩ : Fra)) ((List.range len).map V1) (k / 2) ⟨(F (k / 2)).1, (F (k / 2)).2⟩ (V1 (k / 2)) (by simp [hi]) (by simp [hi])
      rcases (by omega : k = k / 2 * 2 ∨ k = k / 2 * 2 + 1) with e | e
      · rw [e, q.1, ← (hF (k / 2) hi).1]
        exact c0
      · rw [e, q.2]
        exact c1
    · rw [Tryd.fcells_length _ _ (by simp)]
    · intro i f u h1 h2
      have hi : i < len := by
        have := (List.getElem?_eq_some_iff.1 h1).1
        simpa using this
      simp [hi] at h1 h2
      subst h1
      subst h2
      exact ⟨(hF i hi).2.2, (hF i hi).2.1⟩

theorem ob_own : ownKnob Tryd.prog.godebug = none := by kernel_rfl
theorem ob_laidOut : laidOutB Tryd.prog = true := by kernel_rfl
/-- A world that meets the condition: the settled one, the variable's cell laid. -/
noncomputable def obWorld (os : Os) : World :=
  let w0 := World.holding Tryd.prog os ⟨#[], #[], []⟩
  { w0 with heap := w0.heap.modify 1 fun
      | .cells _ t frozen => .cells #[.iface 294 (.agg #[typeHandle Tryd.prog 29])] t frozen
      | o => o }
theorem obWorld_met (os : Os) (args : Array Value) : laidMetH Tryd.prog Rows.outboxOrderRow.laid ((obWorld os).forCall (fun _ _ => 0) ⟨#[], args, []⟩).memory :=
  laidMetH_of_parts (laidMet_nil _ _) (by kernel_rfl)

set_option maxRecDepth 100000 in
theorem ob_lifted (os : Os) (started : os.Started) (H : Type) (enc : TypeId × Value → H) :
    ReturnsInHanded {} Tryd.checked os 3 .any (fun w args => (Rows.outboxOrderSpec.pre enc Tryd.prog Tryd.f3 [] false w args ∧ laidMetH Tryd.prog Rows.outboxOrderRow.laid w) ∧ sizedMet enc Tryd.prog Tryd.f3 (OpenSpec.ofChange Rows.outboxOrderSpec) false w args)
      (Rows.outboxOrderSpec.post enc Tryd.prog Tryd.f3 false true false false) := by
  refine returnsInHanded_of_change_and (C := Tryd.checked) (X := fun w _ => laidMetH Tryd.prog Rows.outboxOrderRow.laid w) (fun _ _ _ hh h => h.of_heap hh) ob_own started (by kernel_rfl) Tryd.func3
    (ChangeSpec.witness_at (enc := enc) (C := Tryd.checked) (os := os) (X := fun w _ => laidMetH Tryd.prog Rows.outboxOrderRow.laid w) false (obWorld os) #[.slice none 0 0, .int .u8 0, .int .u8 0] 8 rfl (by kernel_rfl) (by kernel_rfl) (by kernel_rfl) (by kernel_rfl) (by kernel_rfl) (obWorld_met os _)) ?_
  intro W base args ds gs before hval0 hW _ _ hL _
  have hval : ∀ (j : Nat) t v, Tryd.f3.params[j]? = some t → args[j]? = some v → Value.okWide Tryd.prog W .any base t v := hval0
  have hW' := hW
  obtain ⟨p, q, hA0, hV0, rfl, hfz, hnd⟩ := hW
  have hA : DataW.TrodAll enc Tryd.prog W 0 (fun _ => true) true Tryd.f3.params.toList args.toList ds p := hA0
  have hV : DataW.TrodVars enc Tryd.prog W (fun _ => true) [] gs q := hV0
  rw [Tryd.params3] at hA hval
  obtain ⟨v0, vs0, d0, ds0, p0, q0, hargs, rfl, rfl, h0, r0⟩ := trodAll_cons hA
  obtain ⟨v1, vs1, d1, ds1, p1, q1, rfl, rfl, rfl, h1, r1⟩ := trodAll_cons r0
  obtain ⟨v2, vs2, d2, ds2, p2, q2, rfl, rfl, rfl, h2, r2⟩ := trodAll_cons r1
  obtain ⟨rfl, rfl, rfl⟩ := trodAll_nil r2
  obtain rfl : args = #[v0, v1, v2] := by cases args; simp_all
  obtain ⟨n1, rfl, rfl, rfl, w1⟩ := open_int Tryd.underlying5 (hval 1 5 v1 rfl rfl) h1
  obtain ⟨n2, rfl, rfl, rfl, w2⟩ := open_int Tryd.underlying5 (hval 2 5 v2 rfl rfl) h2
  obtain ⟨a, len, cap, rfl⟩ := okWide_slice Tryd.underlying22 (hval 0 22 v0 rfl rfl)
  have lt0 : ∀ x ∈ p0, x.block < W.heap.size := by obtain ⟨m, hm⟩ := h0; exact DataW.trod_lt m _ _ _ hm
  have h0' := h0
  obtain ⟨fuel, hf⟩ := h0'
  obtain ⟨fs, vs, hFs⟩ := Fs_of_trod hf
  obtain ⟨rfl, rfl⟩ : gs = [] ∧ q = [] := by
    cases gs with
    | nil => exact ⟨rfl, hV⟩
    | cons g r => exact absurd hV (by intro h; cases h)
  have b1 : 0 ≤ n1 ∧ n1 < 256 := by
    simp [Lit.wf, IntKind.min, IntKind.max, IntKind.signed, IntKind.bits] at w1
    omega
  have b2 : 0 ≤ n2 ∧ n2 < 256 := by
    simp [Lit.wf, IntKind.min, IntKind.max, IntKind.signed, IntKind.bits] at w2
    omega
  have hc := Tryd.OutboxOrder_calls (h := W.heap) hFs n1.toNat n2.toNat (by omega) (by omega)
  rw [Int.toNat_of_nonneg b1.1, Int.toNat_of_nonneg b2.1] at hc
  refine (CallsH.law hc).mono fun e W' ⟨he, bel⟩ => ?_
  subst he
  have back := Below.trod ob_laidOut (by kernel_rfl) (of_decide_eq_true (by kernel_rfl)) h0 bel lt0
  have e1 : Rows.outboxOrderSpec.fn H ([d0, .lit (.int .u8 n1), .lit (.int .u8 n2)] ++ []) = { results := [.lit (.bool true)], args := [d0, .lit (.int .u8 n1), .lit (.int .u8 n2)] } := by simp [Rows.outboxOrderSpec]
  refine ⟨_, rfl, _, _, _, [], p0 ++ ([] ++ ([] ++ [])), [], hW', ?_, ?_, ?_, bel.frame _, fun h => by cases h⟩
  · rw [e1]; exact trodAll_mk1 (shut_bool Tryd.underlying4 true)
  · rw [e1]; exact trodAll_cons_mk back (trodAll_cons_mk (shut_int Tryd.underlying5 w1) (trodAll_cons_mk (shut_int Tryd.underlying5 w2) trodAll_mk0))
  · rw [e1]; rfl

theorem ob_row : Rows.OutboxOrderSaid :=
  OpenClaim.holds_of_wide 3 Tryd.f3 rfl rfl rfl rfl rfl rfl rfl ⟨rfl, rfl, rfl, rfl, rfl⟩ rfl rfl rfl rfl rfl (by kernel_rfl) Tryd.func3 (by kernel_rfl)
    (of_decide_eq_true (by kernel_rfl)) (by unfold Func.isWrapper; first | (rw [if_pos (by decide +kernel)]; kernel_rfl) | (rw [if_neg (by decide +kernel)]; exact ⟨rfl, rfl⟩))
    (fun os started H enc _ => ob_lifted os started H enc)
end Go.Proofs.YtekpbjiahlnknaaDoor
