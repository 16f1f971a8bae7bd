/- append where there is room; clear. Its conditions: none. -/
import Derived.Test.YtekpbjiahlnknaaDoorVHEx
namespace Go.H
set_option linter.unusedVariables false
set_option linter.unusedSimpArgs false
section
variable {P : Program} {K : Value → Heap → Prop} {h : Heap} {ρ : Operand → Value} {d : Option Tmp} {ty : TypeId} {ps : String} {af : Array Edge} {gd : Option (Nat × Bool)}

theorem ap_fit {t u e n : Nat} {z : Value} (hb : elB P t = true) (he : eltT P t = some e) (hz : zeroT P e = some z) (hzn : z.cells.size = n) (hn : n ≠ 0) (hu : intB P u = true)
    {b o len cap : Nat} {cells : List Value} (hbb : h[b]? = some (Blk e cells)) (hcap : o + cap * n ≤ cells.length)
    {x : Value} {m : Nat} {l : List Value} (hfit : len + m ≤ cap) (hm : lenV x = some m) (hl : srcL h n m x = some l) (hll : l.length = m * n) (hp : l.all plainV = true)
    {by_ : Nat} (hby : bytesT P e = some by_) (hb0 : by_ ≠ 0) (hsz : (2 * (len + m) + 192) * by_ ≤ 281474976710656)
    (hk : K (.slice (some ⟨b, o, none⟩) (len + m) cap) (hput h b (o + len * n) l)) : apH P t u (.slice (some ⟨b, o, none⟩) len cap) x K h := by
  have hbig : len + m < 9223372036854775807 := by
    have : (2 * (len + m) + 192) * 1 ≤ (2 * (len + m) + 192) * by_ := Nat.mul_le_mul_left _ (by omega)
    omega
  have hadd : (len + m) * n = len * n + m * n := Nat.add_mul _ _ _
  have hmul : (len + m) * n ≤ cap * n := Nat.mul_le_mul_right _ hfit
  refine ap_ok hb he hz hu hm (by rw [hzn]; exact hl) hby hsz hb0 hbig (old := []) (fun h => by omega) ?_ ?_ (fun h => by omega)
  · rintro _ a' ha hne
    cases ha
    refine ⟨hp, ?_⟩
    rw [hzn, add_none, wrCells_eq _ _ _ _ _ _ hne, Nat.add_zero]
    refine ⟨hp, ?_, hk⟩
    simp only [blkOk, hbb, Option.map_some, objOk_Blk, Option.getD_some, decide_eq_true_eq]
    omega
  · rintro _ h0
    have h00 : l = [] := by
      rcases h0 with h0 | h0
      · cases h0
      · exact h0
    subst h00
    rw [hput_nil] at hk
    exact hk

/-! clear -/
def clH (P : Program) (t : TypeId) (v : Value) (K : Value → Heap → Prop) (h : Heap) : Prop := SemH P (Builtin.clear_ #[t] 0 #[v]) K h
theorem op_clear (x : Operand) (t : TypeId) : opH P ρ ⟨d, .call ⟨.builtin .clear, #[x], #[t]⟩, ty, ps, af, gd⟩ K h = clH P t (ρ x) K h := by
  rw [op_builtin, show (#[x] : Array Operand).map ρ = #[ρ x] from by simp]
  exact opV _
@[congr] theorem c_clH {t : TypeId} {v v' : Value} (h1 : v = v') : clH P t v K h = clH P t v' K h := by rw [h1]

theorem cl_own {t e : TypeId} {z : Value} (he : eltT P t = some e) (hz : zeroT P e = some z) (hz0 : z.cells.size ≠ 0) (hp : z.cells.toList.all plainV = true)
    {b o n cap : Nat} {e' : TypeId} {cells : List Value} (hb : h[b]? = some (Blk e' cells)) (hle : o + n * z.cells.size ≤ cells.length)
    (hk : K (.tuple #[]) (hput h b o (List.replicate n z.cells.toList).flatten)) : clH P t (.slice (some ⟨b, o, none⟩) n cap) K h := by
  unfold eltT at he
  cases ht : P.underlying t with
  | none => rw [ht] at he; cases he
  | some dd =>
    rw [ht] at he
    cases dd <;> first | (cases he; done) | skip
    rename_i e''
    dsimp only at he
    obtain rfl : e'' = e := by simpa using he
    unfold clH Builtin.clear_
    show SemH P (underlying t >>= _) K h
    rw [SemH_bind, SemH_underlying, ht, oH_some]
    cases n with
    | zero =>
      simp only [List.replicate_zero, List.flatten_nil, hput_nil] at hk
      exact hk
    | succ n =>
      show SemH P (zeroValue e'' >>= fun z => storeCells ⟨b, o, none⟩ (Builtin.zeroCells z.cells (n + 1)).toList >>= fun _ => pure (.tuple #[])) K h
      rw [SemH_bind, SemH_zeroValue, hz, oH_some, SemH_bind, SemH_storeCells, zeroCells_eq _ hz0]
      have hne : (List.replicate (n + 1) z.cells.toList).flatten ≠ [] := by
        intro h0
        have := congrArg List.length h0
        rw [rep_flat _ z.cells.size _ (by simp)] at this
        exact absurd this (Nat.ne_of_gt (Nat.mul_pos (by omega) (by omega)))
      rw [wrCells_eq _ _ _ _ _ _ hne, Nat.add_zero]
      refine ⟨?_, ?_, hk⟩
      · rw [List.all_eq_true]
        intro x hx
        rw [List.mem_flatten] at hx
        obtain ⟨l, hl, hx⟩ := hx
        obtain ⟨_, rfl⟩ := List.mem_replicate.1 hl
        rw [List.all_eq_true] at hp
        exact hp x hx
      · simp only [blkOk, hb, Option.map_some, objOk_Blk, Option.getD_some, decide_eq_true_eq]
        rw [rep_flat _ z.cells.size _ (by simp)]
        exact hle
end
/-- Late reads of two blocks that stay as they are. -/
theorem rQ_cls_l {α : Type} {b c : Nat} {B C : Obj} (g : Obj → Option α) (G : α → (Value → Heap → Prop) → Heap → Prop) (h : Heap) (N : Value → Prop) (hb : h[b]? = some B) :
    rQ (fun K x => oH ((x[b]?).bind g) fun v => G v K x) (fun x => x[b]? = some B ∧ x[c]? = some C) h N = oH (g B) fun v => rQ (fun K x => G v K x) (fun x => x[b]? = some B ∧ x[c]? = some C) h N := by
  have := rQ_oH α (fun x => (x[b]?).bind g) G (fun x => x[b]? = some B ∧ x[c]? = some C) h N (fun x hx => by rw [hx.1, hb])
  rw [this, hb]
  rfl
theorem rQ_cls_r {α : Type} {b c : Nat} {B C : Obj} (g : Obj → Option α) (G : α → (Value → Heap → Prop) → Heap → Prop) (h : Heap) (N : Value → Prop) (hb : h[c]? = some C) :
    rQ (fun K x => oH ((x[c]?).bind g) fun v => G v K x) (fun x => x[b]? = some B ∧ x[c]? = some C) h N = oH (g C) fun v => rQ (fun K x => G v K x) (fun x => x[b]? = some B ∧ x[c]? = some C) h N := by
  have := rQ_oH α (fun x => (x[c]?).bind g) G (fun x => x[b]? = some B ∧ x[c]? = some C) h N (fun x hx => by rw [hx.2, hb])
  rw [this, hb]
  rfl
attribute [go_sem ↓] op_clear rQ_cls_l rQ_cls_r
end Go.H
