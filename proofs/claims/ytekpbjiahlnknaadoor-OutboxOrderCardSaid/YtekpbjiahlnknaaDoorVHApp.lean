/- append: what it asks, and what it leaves: in place, or in a block of its own. Its conditions: none. -/
import Derived.Test.YtekpbjiahlnknaaDoorVHMore
namespace Go.H
set_option linter.unusedVariables false
set_option linter.unusedSimpArgs false
section
variable {P : Program} {K : Value → Heap → Prop} {h : Heap} {ρ : Operand → Value} {d : Option Tmp} {ty : TypeId} {ps : String} {af : Array Edge} {gd : Option (Nat × Bool)}

def apH (P : Program) (t u : TypeId) (s x : Value) (K : Value → Heap → Prop) (h : Heap) : Prop := SemH P (Builtin.append_ #[t, u] 0 #[s, x]) K h
theorem op_append (x y : Operand) (t u : TypeId) : opH P ρ ⟨d, .call ⟨.builtin .append, #[x, y], #[t, u]⟩, ty, ps, af, gd⟩ K h = apH P t u (ρ x) (ρ y) K h := by
  rw [op_builtin, show (#[x, y] : Array Operand).map ρ = #[ρ x, ρ y] from by simp]
  exact opV _

theorem growBy_le (n : Nat) : ∀ (r c : Nat), c ≤ 2 * n + 192 → Builtin.growBy n r c ≤ 2 * n + 192
  | 0, c, hc => hc
  | r + 1, c, hc => by
    unfold Builtin.growBy
    split
    · exact hc
    · exact growBy_le n r _ (by omega)
theorem next_le {n c : Nat} (hc : c < n) : Builtin.nextslicecap n c ≤ 2 * n + 192 := by
  unfold Builtin.nextslicecap
  split
  · omega
  · split
    · omega
    · exact growBy_le n 4 c (by omega)

/-- The first n elements of a slice, or the bytes of a string, as cells. -/
def srcL (h : Heap) (size n : Nat) : Value → Option (List Value)
  | .slice (some a) _ _ => readCells h a (n * size)
  | .slice none _ _ => some []
  | .string s => some ((s.extract 0 n).data.toList.map fun b => .int .u8 b.toNat)
  | _ => none
theorem SemH_firstCells (size n : Nat) (v : Value) (Q : Array Value → Heap → Prop) (h : Heap) : SemH P (Builtin.firstCells size n v) Q h = oH (srcL h size n v) fun l => Q l.toArray h := by
  unfold Builtin.firstCells srcL
  cases v <;> first | rfl | skip
  case string s => simp only [SemH_pure, oH_some]; congr 1; apply Array.ext'; simp
  case slice a n' c => cases a with
    | none => rfl
    | some a => exact SemH_loadCells a _ _

def lenV : Value → Option Nat
  | .slice _ n _ => some n
  | .string s => some s.size
  | _ => none
theorem SemH_lenOf (v : Value) (Q : Nat → Heap → Prop) (h : Heap) : SemH P (Builtin.lenOf v) Q h = oH (lenV v) fun n => Q n h := by
  cases v <;> rfl

theorem zeroCells_eq (z : Array Value) (hz : z.size ≠ 0) (n : Nat) : (Builtin.zeroCells z n).toList = (List.replicate n z.toList).flatten := by
  unfold Builtin.zeroCells
  have := cyc_eq z hz n
  rw [this]

def intB (P : Program) (t : TypeId) : Bool := match P.underlying t with | some (.slice _) => true | some .string => true | _ => false

theorem ap_ok {t u e : TypeId} {z : Value} (hb : elB P t = true) (he : eltT P t = some e) (hz : zeroT P e = some z) (hu : intB P u = true)
    {a : Option Addr} {len cap : Nat} {x : Value} {m : Nat} (hm : lenV x = some m) {l : List Value} (hl : srcL h z.cells.size m x = some l)
    {by_ : Nat} (hby : bytesT P e = some by_) (hsz : (2 * (len + m) + 192) * by_ ≤ 281474976710656) (hb0 : by_ ≠ 0) (hbig : len + m < 9223372036854775807)
    {old : List Value} (hold : cap < len + m → srcL h z.cells.size len (.slice a len cap) = some old)
    (h1 : len + m ≤ cap → ∀ a', a = some a' → l ≠ [] → l.all plainV = true ∧ wrCells (a'.add (len * z.cells.size)) l 0 h (K (.slice a (len + m) cap)))
    (h1' : len + m ≤ cap → (a = none ∨ l = []) → K (.slice a (len + m) cap) h)
    (h2 : cap < len + m → ∀ c, len + m ≤ c → K (.slice (some ⟨h.size, 0, none⟩) (len + m) c) (h.push (Blk e (old ++ l ++ (List.replicate (c - (len + m)) z.cells.toList).flatten)))) :
    apH P t u (.slice a len cap) x K h := by
  unfold apH Builtin.append_
  show SemH P (underlying t >>= _) K h
  unfold elB at hb
  unfold eltT at he
  unfold intB at hu
  cases ht : P.underlying t with
  | none => rw [ht] at hb; cases hb
  | some dd =>
    rw [ht] at hb he
    cases dd <;> first | (cases hb; done) | skip
    rename_i e'
    dsimp only at hb he
    obtain rfl : e' = e := by simpa using he
    rw [hz] at hb
    cases hcn : cellsT P e' with
    | none => rw [hcn] at hb; cases hb
    | some n =>
      rw [hcn] at hb
      simp only [Bool.and_eq_true, beq_iff_eq, bne_iff_ne, ne_eq] at hb
      obtain ⟨rfl, hn⟩ := hb
      cases hud : P.underlying u with
      | none => rw [hud] at hu; cases hu
      | some ud =>
        rw [SemH_bind, SemH_underlying, ht, oH_some]
        show SemH P (sizeOf e' >>= _) K h
        rw [SemH_sizeOf_bind, hcn, oH_some]
        show SemH P (underlying u >>= _) K h
        rw [SemH_bind, SemH_underlying, hud, oH_some]
        rw [hud] at hu
        rw [SemH_bind, SemH_pure]
        cases ud <;> first | (cases hu; done) | skip
        all_goals simp only [Bool.false_eq_true, if_false, Bool.not_false, if_true, List.getElem_toArray, List.getElem_cons_succ, List.getElem_cons_zero]
        all_goals
          rw [SemH_bind, SemH_lenOf, hm, oH_some]
          by_cases hfit : len + m ≤ cap
          · rw [if_pos hfit, SemH_bind, SemH_firstCells, hl, oH_some]
            cases a with
            | none => exact h1' hfit (.inl rfl)
            | some a' =>
              show SemH P (storeCells (a'.add (len * z.cells.size)) l.toArray.toList >>= fun _ => pure _) K h
              rw [SemH_bind, SemH_storeCells]
              cases l with
              | nil => exact h1' hfit (.inr rfl)
              | cons v l => exact (h1 hfit a' rfl (by simp)).2
          · rw [if_neg hfit]
            have hlt : cap < len + m := by omega
            cases hi : P.info? e' with
            | none => unfold cellsT at hcn; rw [hi] at hcn; cases hcn
            | some i =>
              have hbi : i.bytes = by_ := by unfold bytesT at hby; rw [hi] at hby; simpa using hby
              simp only [SemH_bind, SemH_typeInfo, hi, oH_some, SemH_pure]
              rw [if_neg (by
                have : IntKind.i64.max = 9223372036854775807 := rfl
                rw [this, hbi]
                simp [hb0])]
              simp only [SemH_bind, SemH_typeInfo, hi, oH_some, SemH_pure]
              have hnx := next_le hlt
              have hmul : Builtin.nextslicecap (len + m) cap * by_ ≤ 281474976710656 := Nat.le_trans (Nat.mul_le_mul_right _ hnx) hsz
              rw [if_neg (by
                rw [hbi]
                have : (2 : Nat) ^ 48 = 281474976710656 := by decide
                omega)]
              simp only [SemH_bind, SemH_typeInfo, hi, oH_some, SemH_pure]
              show SemH P (.choose (.appendCap (len + m) cap e') .pure) _ h
              simp only [SemH, Question.forced, Bool.false_eq_true, if_false]
              intro tt
              simp only [Question.cut]
              generalize hc : len + m + tt % (2 ^ 63 - (len + m)) = c
              rw [SemH_askRoom, SemH_firstCells, hold hlt, oH_some, SemH_firstCells, hl, oH_some, SemH_zeroValue, hz, oH_some, SemH_newRow]
              have := h2 hlt c (by omega)
              rw [← zeroCells_eq _ hn] at this
              simpa using this
end
attribute [go_sem] op_append
end Go.H
