/- What each operation of the model asks of the heap, in a form in which it is reckoned. Its conditions: none. -/
import Derived.Test.YtekpbjiahlnknaaDoorVH
namespace Go.H

def oH {α : Type} (o : Option α) (K : α → Prop) : Prop := match o with
  | some v => K v
  | none => False
theorem oH_some {α : Type} (v : α) (K : α → Prop) : oH (some v) K = K v := rfl
theorem oH_none {α : Type} (K : α → Prop) : oH none K = False := rfl

/-- What an address asks. -/
def pH (v : Value) (K : Addr → Prop) : Prop := match v with
  | .pointer (some a) => K a
  | _ => False
theorem pH_some (a : Addr) (K : Addr → Prop) : pH (.pointer (some a)) K = K a := rfl
theorem pH_none (K : Addr → Prop) : pH (.pointer none) K = False := rfl

/-- A block of cells that none has frozen. -/
def Blk (t : TypeId) (l : List Value) : Obj := .cells l.toArray t (0, 0)

def objCell (o : Nat) : Obj → Option Value
  | .cells c _ _ => c[o]?
  | _ => none

def objSet (o : Nat) (v : Value) : Obj → Obj
  | .cells c t f => .cells (c.setIfInBounds o v) t f
  | x => x

def objFrozen (o : Nat) : Obj → Bool
  | .cells _ _ (lo, hi) => lo ≤ o && o < hi
  | _ => false

def objShape : Obj → Option (TypeId × Nat)
  | .cells c t _ => some (t, c.size)
  | _ => none

theorem objCell_Blk (o : Nat) (t : TypeId) (l : List Value) : objCell o (Blk t l) = l[o]? := by simp [objCell, Blk]
theorem objSet_Blk (o : Nat) (v : Value) (t : TypeId) (l : List Value) : objSet o v (Blk t l) = Blk t (l.set o v) := by simp [objSet, Blk]
theorem objFrozen_Blk (o : Nat) (t : TypeId) (l : List Value) : objFrozen o (Blk t l) = false := by simp [objFrozen, Blk]
theorem objShape_Blk (t : TypeId) (l : List Value) : objShape (Blk t l) = some (t, l.length) := by simp [objShape, Blk]

theorem cellAt_eq (h : Heap) (b o : Nat) : cellAt h ⟨b, o, none⟩ = (h[b]?).bind (objCell o) := by
  unfold cellAt
  cases h[b]? with
  | none => rfl
  | some x => cases x <;> rfl

theorem frozenAt_eq (h : Heap) (b o : Nat) (s : Option Nat) : frozenAt h ⟨b, o, s⟩ = ((h[b]?).map (objFrozen o)).getD false := by
  unfold frozenAt
  cases h[b]? with
  | none => rfl
  | some x => cases x <;> rfl

theorem shapeAt_eq (h : Heap) (b : Nat) : shapeAt h b = (h[b]?).bind objShape := by
  unfold shapeAt
  cases h[b]? with
  | none => rfl
  | some x => cases x <;> rfl

theorem setAt_size (h : Heap) (a : Addr) (v : Value) : (setAt h a v).size = h.size := by simp [setAt]

theorem setAt_get (h : Heap) (b o : Nat) (v : Value) (b' : Nat) : (setAt h ⟨b, o, none⟩ v)[b']? = if b = b' then (h[b']?).map (objSet o v) else h[b']? := by
  simp only [setAt, Array.getElem?_modify]
  by_cases e : b = b'
  · rw [if_pos e, if_pos e]
    cases h[b']? with
    | none => rfl
    | some x => cases x <;> simp [objSet]
  · rw [if_neg e, if_neg e]

theorem setAt_same (h : Heap) (b o : Nat) (v : Value) : (setAt h ⟨b, o, none⟩ v)[b]? = (h[b]?).map (objSet o v) := by rw [setAt_get, if_pos rfl]
theorem setAt_ne {b b' : Nat} (hne : b ≠ b') (h : Heap) (o : Nat) (v : Value) : (setAt h ⟨b, o, none⟩ v)[b']? = h[b']? := by rw [setAt_get, if_neg hne]

theorem push_size (h : Heap) (o : Obj) : (h.push o).size = h.size + 1 := by simp
theorem push_new (h : Heap) (o : Obj) : (h.push o)[h.size]? = some o := by simp
theorem push_old {h : Heap} {b : Nat} (hb : b < h.size) (o : Obj) : (h.push o)[b]? = h[b]? := by rw [Array.getElem?_push, if_neg (by omega)]

theorem lt_of_some {h : Heap} {b : Nat} {o : Obj} (hb : h[b]? = some o) : b < h.size := by
  rcases Nat.lt_or_ge b h.size with x | x
  · exact x
  · rw [Array.getElem?_eq_none x] at hb; cases hb

section
variable {P : Program} {K : Value → Heap → Prop} {h : Heap}

theorem opV (s : Sem Value) : SemH P (do pure (Next.value (← s))) (nextH P K) h = SemH P s K h := by rw [SemH_bind]; rfl
theorem opU (s : Sem Unit) : SemH P (do s; pure Next.skip) (nextH P K) h = SemH P s (fun _ h' => K undef h') h := by rw [SemH_bind]; rfl

theorem SemH_underlying (t : TypeId) (Q : TypeDesc → Heap → Prop) : SemH P (underlying t) Q h = oH (P.underlying t) fun d => Q d h := by
  show SemH P (program >>= fun p => _) Q h = _
  rw [SemH_bind]
  show SemH P (match P.underlying t with | some d => pure d | none => stuck "no such type") Q h = _
  cases P.underlying t <;> rfl

theorem SemH_typeInfo (t : TypeId) (Q : TypeInfo → Heap → Prop) : SemH P (typeInfo t) Q h = oH (P.info? t) fun d => Q d h := by
  show SemH P (program >>= fun p => _) Q h = _
  rw [SemH_bind]
  show SemH P (match P.info? t with | some d => pure d | none => stuck "no such type") Q h = _
  cases P.info? t <;> rfl

/-- A type's cells, if it is one of the program's. -/
def cellsT (P : Program) (t : TypeId) : Option Nat := (P.info? t).map (·.size)
def bytesT (P : Program) (t : TypeId) : Option Nat := (P.info? t).map (·.bytes)
def zeroT (P : Program) (t : TypeId) : Option Value := (P.info? t).bind (·.zero)

theorem SemH_sizeOf (t : TypeId) (Q : Nat → Heap → Prop) : SemH P (sizeOf t) Q h = oH (cellsT P t) fun n => Q n h := by
  unfold sizeOf
  rw [SemH_bind, SemH_typeInfo]
  unfold cellsT
  cases P.info? t <;> rfl

theorem SemH_sizeOf_bind {α : Type} (t : TypeId) (f : Nat → Sem α) (Q : α → Heap → Prop) : SemH P (sizeOf t >>= f) Q h = oH (cellsT P t) fun n => SemH P (f n) Q h := by
  rw [SemH_bind, SemH_sizeOf]

theorem SemH_zeroValue (t : TypeId) (Q : Value → Heap → Prop) : SemH P (zeroValue t) Q h = oH (zeroT P t) fun n => Q n h := by
  unfold zeroValue
  rw [SemH_bind, SemH_typeInfo]
  unfold zeroT
  cases P.info? t with
  | none => rfl
  | some i =>
    show SemH P (match i.zero with | some v => pure v | none => _) Q h = _
    simp only [Option.bind_some]
    cases i.zero <;> rfl

theorem SemH_isAgg (t : TypeId) (Q : Bool → Heap → Prop) : SemH P (isAgg t) Q h = oH (P.underlying t) fun d => Q (aggT (some d)) h := by
  unfold isAgg
  rw [SemH_bind, SemH_underlying]
  cases P.underlying t with
  | none => rfl
  | some d => cases d <;> rfl

theorem SemH_load (a : Addr) (m : Mode) (Q : Value → Heap → Prop) : SemH P (load a m) Q h = oH (cellAt h a) fun v => Q v h := by
  show SemH P (.load m a .pure) Q h = _
  unfold SemH oH
  cases cellAt h a <;> rfl

theorem SemH_loadCellsFrom (a : Addr) (Q : Array Value → Heap → Prop) : ∀ (n i : Nat) (acc : Array Value),
    SemH P (loadCellsFrom a i n acc) Q h = oH ((List.range' i n).mapM (fun j => cellAt h (a.add j))) fun l => Q (acc ++ l.toArray) h
  | 0, i, acc => by simp [loadCellsFrom, SemH_pure, oH]
  | n + 1, i, acc => by
    unfold loadCellsFrom
    rw [SemH_bind, SemH_load]
    simp only [List.range'_succ, List.mapM_cons]
    cases hc : cellAt h (a.add i) with
    | none => rfl
    | some v =>
      rw [oH_some]
      rw [SemH_loadCellsFrom a Q n (i + 1) (acc.push v)]
      simp only [Option.bind_eq_bind, Option.bind_some]
      cases (List.range' (i + 1) n).mapM (fun j => cellAt h (a.add j)) with
      | none => rfl
      | some l => simp [oH]

/-- n cells from an address on, as one list. -/
def readCells (h : Heap) (a : Addr) (n : Nat) : Option (List Value) := (List.range n).mapM (fun j => cellAt h (a.add j))

theorem SemH_loadCells (a : Addr) (n : Nat) (Q : Array Value → Heap → Prop) :
    SemH P (loadCells a n) Q h = oH (readCells h a n) fun l => Q l.toArray h := by
  unfold loadCells readCells
  rw [SemH_loadCellsFrom, List.range_eq_range']
  simp


theorem SemH_ite {α : Type} (c : Prop) [Decidable c] (x y : Sem α) (Q : α → Heap → Prop) : SemH P (if c then x else y) Q h = if c then SemH P x Q h else SemH P y Q h := by split <;> rfl

/-- A variable of a type, read. -/
def rdVar (P : Program) (h : Heap) (t : TypeId) (a : Addr) : Option Value :=
  match P.underlying t with
  | some d => if aggT (some d) = true then (cellsT P t).bind fun n => (readCells h a n).map fun l => .agg l.toArray else cellAt h a
  | none => none

theorem SemH_loadVar (t : TypeId) (a : Addr) (Q : Value → Heap → Prop) : SemH P (loadVar t a) Q h = oH (rdVar P h t a) fun v => Q v h := by
  unfold loadVar rdVar
  rw [SemH_bind, SemH_isAgg]
  cases hu : P.underlying t with
  | none => rfl
  | some d =>
    simp only [oH_some]
    by_cases hg : aggT (some d) = true
    · rw [if_pos hg, if_pos hg, SemH_bind, SemH_sizeOf]
      cases hc : cellsT P t with
      | none => rfl
      | some n =>
        simp only [Option.bind_some, oH_some]
        simp only [SemH_bind, SemH_loadCells]
        cases readCells h a n <;> rfl
    · rw [if_neg hg, if_neg hg, SemH_load]

theorem SemH_store (a : Addr) (v : Value) (m : Mode) (Q : Unit → Heap → Prop) : SemH P (store a v m) Q h = (plainV v = true ∧ (cellAt h a).isSome = true ∧ frozenAt h a = false ∧ Q () (setAt h a v)) := rfl

/-- Cells stored one behind the other. -/
def wrCells (a : Addr) : List Value → Nat → Heap → (Heap → Prop) → Prop
  | [], _, h, K => K h
  | v :: l, i, h, K => plainV v = true ∧ (cellAt h (a.add i)).isSome = true ∧ frozenAt h (a.add i) = false ∧ wrCells a l (i + 1) (setAt h (a.add i) v) K

theorem SemH_storeCells (a : Addr) (Q : Unit → Heap → Prop) : ∀ (l : List Value) (i : Nat) (h : Heap), SemH P (storeCells a l i) Q h = wrCells a l i h (Q ())
  | [], i, h => rfl
  | v :: l, i, h => by
    unfold storeCells wrCells
    rw [SemH_bind, SemH_store, SemH_storeCells a Q l (i + 1)]

theorem SemH_storeVar (t : TypeId) (a : Addr) (v : Value) (Q : Unit → Heap → Prop) : SemH P (storeVar t a v) Q h = oH (cellsT P t) fun n => v.cells.size = n ∧ wrCells a v.cells.toList 0 h (Q ()) := by
  unfold storeVar
  simp only [SemH_bind, SemH_sizeOf]
  cases cellsT P t with
  | none => rfl
  | some n =>
    simp only [oH_some]
    by_cases hn : v.cells.size = n
    · rw [if_neg (by simpa using hn)]
      simp only [hn, true_and]
      exact SemH_storeCells a Q _ 0 h
    · rw [if_pos hn]
      simp only [hn, false_and]
      rfl

theorem SemH_sureAddr (v : Value) (Q : Addr → Heap → Prop) : SemH P (Instr.sureAddr v) Q h = pH v fun a => Q a h := by
  unfold Instr.sureAddr pH
  cases v with
  | pointer a => cases a <;> rfl
  | _ => rfl

theorem SemH_newObj (o : Obj) (Q : Nat → Heap → Prop) : SemH P (newObj o) Q h = Q h.size (h.push o) := rfl

theorem SemH_newRow (e : TypeId) (c : Array Value) (Q : Addr → Heap → Prop) : SemH P (newRow e c) Q h = Q ⟨h.size, 0, none⟩ (h.push (Blk e c.toList)) := by
  unfold newRow
  rw [SemH_bind, SemH_newObj]
  rfl

end

/-! ### The operations -/
section
variable {P : Program} {K : Value → Heap → Prop} {h : Heap} {ρ : Operand → Value} {d : Option Tmp} {ty : TypeId} {ps : String} {af : Array Edge} {gd : Option (Nat × Bool)}

theorem op_move (x : Operand) : opH P ρ ⟨d, .move x, ty, ps, af, gd⟩ K h = K (ρ x) h := rfl
theorem op_assign (x : Operand) : opH P ρ ⟨d, .assign x, ty, ps, af, gd⟩ K h = K (ρ x) h := rfl

def pickH (c a b : Value) (K : Value → Heap → Prop) (h : Heap) : Prop := match c with
  | .bool t => K (if t = true then a else b) h
  | _ => False
theorem op_pick (c a b : Operand) : opH P ρ ⟨d, .pick c a b, ty, ps, af, gd⟩ K h = pickH (ρ c) (ρ a) (ρ b) K h := by
  unfold opH pickH
  show SemH P (do pure (.value (if ← asBool (ρ c) then ρ a else ρ b))) (nextH P K) h = _
  rw [SemH_bind]
  cases ρ c <;> rfl
theorem pickH_bool (t : Bool) (a b : Value) : pickH (.bool t) a b K h = K (if t = true then a else b) h := rfl

theorem op_alloc (e : TypeId) : opH P ρ ⟨d, .alloc e, ty, ps, af, gd⟩ K h = oH (zeroT P e) fun z => K (.pointer (some ⟨h.size, 0, none⟩)) (h.push (Blk e z.cells.toList)) := by
  unfold opH
  show SemH P (do pure (Next.value (← Instr.alloc e true (.tuple #[])))) (nextH P K) h = _
  rw [opV]
  unfold Instr.alloc
  rw [SemH_bind, SemH_zeroValue]
  cases zeroT P e with
  | none => rfl
  | some z =>
    simp only [oH_some]
    rw [SemH_bind]
    unfold newVar
    rw [SemH_newRow]
    rfl

theorem op_box (e : TypeId) (x : Operand) : opH P ρ ⟨d, .box e x, ty, ps, af, gd⟩ K h = K (.pointer (some ⟨h.size, 0, none⟩)) (h.push (Blk e (ρ x).cells.toList)) := by
  unfold opH
  show SemH P (do pure (Next.value (← Instr.box e (ρ x)))) (nextH P K) h = _
  rw [opV]
  unfold Instr.box newVar
  rw [SemH_bind, SemH_newRow]
  rfl

/-- What a load asks. -/
def ldH (P : Program) (t : TypeId) (v : Value) (K : Value → Heap → Prop) (h : Heap) : Prop := pH v fun a => oH (rdVar P h t a) fun v => K v h
theorem op_load (t : TypeId) (x : Operand) : opH P ρ ⟨d, .load t x, ty, ps, af, gd⟩ K h = ldH P t (ρ x) K h := by
  unfold opH ldH
  show SemH P (do pure (Next.value (← Instr.loadAt t (ρ x)))) (nextH P K) h = _
  rw [opV]
  unfold Instr.loadAt
  rw [SemH_bind, SemH_sureAddr]
  simp only [SemH_loadVar]

def stH (P : Program) (t : TypeId) (v x : Value) (K : Heap → Prop) (h : Heap) : Prop := pH v fun a => oH (cellsT P t) fun n => x.cells.size = n ∧ wrCells a x.cells.toList 0 h K
theorem op_store (t : TypeId) (x y : Operand) : opH P ρ ⟨d, .store t x y, ty, ps, af, gd⟩ K h = stH P t (ρ x) (ρ y) (K undef) h := by
  unfold opH stH
  show SemH P (do Instr.storeAt t (ρ x) (ρ y); pure Next.skip) (nextH P K) h = _
  rw [opU]
  unfold Instr.storeAt
  rw [SemH_bind, SemH_sureAddr]
  simp only [SemH_storeVar]

/-- A nil check of a pointer. -/
def nilH (v : Value) (K : Value → Heap → Prop) (h : Heap) : Prop := pH v fun a => K (.pointer (some a)) h


theorem op_nilCheck (x : Operand) (a : Addr) (hx : ρ x = .pointer (some a)) : opH P ρ ⟨d, .nilCheck x, ty, ps, af, gd⟩ K h = K (.pointer (some a)) h := by
  unfold opH
  simp only [execOp, hx]
  rfl

/-- A field of a struct type: its place, its type. -/
def fieldT (P : Program) (t : TypeId) (i : Nat) : Option (Nat × TypeId × Bool) := match P.underlying t with
  | some (.struct f) => (f[i]?).map fun x => (x.offset, x.type, decide ((cellsT P x.type).getD 0 = 0))
  | _ => none

theorem SemH_fieldAt (t : TypeId) (v : Value) (i : Nat) {o : Nat} {u : TypeId} (hf : fieldT P t i = some (o, u, false)) :
    SemH P (Instr.fieldAt t v i) K h = pH v fun a => K (.pointer (some (a.add o))) h := by
  unfold Instr.fieldAt
  rw [SemH_bind, SemH_underlying]
  unfold fieldT at hf
  cases hu : P.underlying t with
  | none => rw [hu] at hf; simp at hf
  | some d =>
    rw [hu] at hf
    cases d <;> first | (simp at hf; done) | skip
    rename_i fs
    simp only [oH_some]
    simp only [Option.map_eq_some_iff, Prod.mk.injEq] at hf
    obtain ⟨f, hfi, rfl, rfl, hz⟩ := hf
    rw [hfi]
    dsimp only
    rw [SemH_bind, SemH_sureAddr]
    simp only [SemH_bind, fieldPlace, SemH_sizeOf]
    congr 1
    funext a
    cases hc : cellsT P f.type with
    | none => rw [hc] at hz; simp at hz
    | some n =>
      rw [hc] at hz
      simp only [Option.getD_some, decide_eq_false_iff_not] at hz
      simp only [oH_some, if_neg hz]
      rfl

theorem op_fieldAddr (t : TypeId) (x : Operand) (i : Nat) {o : Nat} {u : TypeId} (hf : fieldT P t i = some (o, u, false)) :
    opH P ρ ⟨d, .fieldAddr t x i, ty, ps, af, gd⟩ K h = pH (ρ x) fun a => K (.pointer (some (a.add o))) h := by
  unfold opH
  show SemH P (do pure (Next.value (← Instr.fieldAt t (ρ x) i))) (nextH P K) h = _
  rw [opV, SemH_fieldAt t _ i hf]

/-- A part of cells. -/
def partV (P : Program) (t : TypeId) (cs : List Value) (o : Nat) : Option Value := match P.underlying t with
  | some dd => if aggT (some dd) = true then (cellsT P t).map fun n => .agg ((cs.drop o).take n).toArray else cs[o]?
  | none => none

theorem SemH_part (t : TypeId) (cs : Array Value) (o : Nat) (Q : Value → Heap → Prop) : SemH P (part t cs o) Q h = oH (partV P t cs.toList o) fun v => Q v h := by
  unfold part partV
  rw [SemH_bind, SemH_isAgg]
  cases P.underlying t with
  | none => rfl
  | some dd =>
    simp only [oH_some]
    by_cases hg : aggT (some dd) = true
    · rw [if_pos hg, if_pos hg, SemH_sizeOf_bind]
      cases cellsT P t with
      | none => rfl
      | some n =>
        simp only [oH_some, Option.map_some]
        have : cs.extract o (o + n) = (List.take n (List.drop o cs.toList)).toArray := by
          apply Array.ext'
          simp [List.extract_eq_take_drop]
        rw [this]
        rfl
    · rw [if_neg hg, if_neg hg]
      cases hc : cs[o]? with
      | none =>
        have : cs.toList[o]? = none := by simpa using hc
        rw [this]
        rfl
      | some v =>
        have : cs.toList[o]? = some v := by simpa using hc
        rw [this]
        rfl

/-- What a value of cells asks. -/
def aH (v : Value) (K : List Value → Prop) : Prop := match v with
  | .agg c => K c.toList
  | _ => False
theorem aH_agg (l : List Value) (K : List Value → Prop) : aH (.agg l.toArray) K = K l := rfl

theorem op_field (t : TypeId) (x : Operand) (i : Nat) {o : Nat} {u : TypeId} {z : Bool} (hf : fieldT P t i = some (o, u, z)) :
    opH P ρ ⟨d, .field t x i, ty, ps, af, gd⟩ K h = aH (ρ x) fun cs => oH (partV P u cs o) fun v => K v h := by
  unfold opH
  show SemH P (do pure (Next.value (← Instr.field t (ρ x) i))) (nextH P K) h = _
  rw [opV]
  unfold Instr.field
  rw [SemH_bind, SemH_underlying]
  unfold fieldT at hf
  cases hu : P.underlying t with
  | none => rw [hu] at hf; simp at hf
  | some d =>
    rw [hu] at hf
    cases d <;> first | (simp at hf; done) | skip
    rename_i fs
    simp only [oH_some]
    simp only [Option.map_eq_some_iff, Prod.mk.injEq] at hf
    obtain ⟨f, hfi, rfl, rfl, hz⟩ := hf
    rw [hfi]
    dsimp only
    rw [SemH_bind]
    cases ρ x <;> first | rfl | skip
    exact SemH_part _ _ _ _

/-- What an integer asks. -/
def iH (v : Value) (K : Int → Prop) : Prop := match v with
  | .int _ n => K n
  | _ => False
theorem iH_int (k : IntKind) (n : Int) (K : Int → Prop) : iH (.int k n) K = K n := rfl

theorem SemH_boundsPanic {α : Type} (k : IntKind) (x y : Int) (c : BoundsCode) (Q : α → Heap → Prop) (h : Heap) (hs : SemH P (boundsPanic (α := α) k x y c) Q h) : False := by
  unfold boundsPanic at hs
  dsimp only at hs
  split at hs
  · rw [SemH_bind] at hs
    have := SemH_mono (Q' := fun _ _ => False) _ hs (fun a h' hh => hh)
    obtain ⟨_, _, _, hf, _⟩ := SemH_sound _ _ ⟨h, fun _ _ => 0, 0, default, #[]⟩ this
    exact hf
  · exact hs

/-- The address of an element of a slice. -/
theorem op_indexAddr_slice (t : TypeId) (x y : Operand) {e : TypeId} {n : Nat} (hu : P.underlying t = some (.slice e)) (hc : cellsT P e = some n) {a : Option Addr} {len cap : Nat}
    (hx : ρ x = .slice a len cap) {k : IntKind} {i : Int} (hy : ρ y = .int k i) (h0 : 0 ≤ i) (h1 : i < len) :
    opH P ρ ⟨d, .indexAddr t x y, ty, ps, af, gd⟩ K h = oH a fun a => K (.pointer (some (a.add (i.toNat * n)))) h := by
  unfold opH
  show SemH P (do pure (Next.value (← Instr.indexAt t (ρ x) (ρ y)))) (nextH P K) h = _
  rw [opV, hx, hy]
  unfold Instr.indexAt asIntOf
  simp only [SemH_bind, SemH_pure, SemH_underlying, hu, oH_some]
  cases a with
  | none =>
    simp only [oH_none]
    exact propext ⟨fun hh => SemH_boundsPanic _ _ _ _ _ _ hh, fun hh => hh.elim⟩
  | some a =>
    simp only [oH_some]
    rw [if_pos ⟨h0, by simpa using h1⟩, SemH_sizeOf_bind, hc]
    rfl

theorem op_indexAddr_array (t : TypeId) (x y : Operand) {e : TypeId} {n m : Nat} (hu : P.underlying t = some (.array m e)) (hc : cellsT P e = some n)
    {k : IntKind} {i : Int} (hy : ρ y = .int k i) (h0 : 0 ≤ i) (h1 : i < m) :
    opH P ρ ⟨d, .indexAddr t x y, ty, ps, af, gd⟩ K h = pH (ρ x) fun a => K (.pointer (some (a.add (i.toNat * n)))) h := by
  unfold opH
  show SemH P (do pure (Next.value (← Instr.indexAt t (ρ x) (ρ y)))) (nextH P K) h = _
  rw [opV, hy]
  unfold Instr.indexAt asIntOf
  simp only [SemH_bind, SemH_pure, SemH_underlying, hu, oH_some]
  rw [SemH_sureAddr]
  congr 1
  funext a
  rw [if_pos ⟨h0, by simpa using h1⟩, SemH_sizeOf_bind, hc]
  rfl

theorem op_index_array (t : TypeId) (x y : Operand) {e : TypeId} {n m : Nat} (hu : P.underlying t = some (.array m e)) (hc : cellsT P e = some n)
    {k : IntKind} {i : Int} (hy : ρ y = .int k i) (h0 : 0 ≤ i) (h1 : i < m) :
    opH P ρ ⟨d, .index t x y, ty, ps, af, gd⟩ K h = aH (ρ x) fun cs => oH (partV P e cs (i.toNat * n)) fun v => K v h := by
  unfold opH
  show SemH P (do pure (Next.value (← Instr.index t (ρ x) (ρ y)))) (nextH P K) h = _
  rw [opV, hy]
  unfold Instr.index asIntOf
  simp only [SemH_bind, SemH_pure, SemH_underlying, hu, oH_some]
  cases ρ x <;> first | rfl | skip
  rename_i cs
  show SemH P (if 0 ≤ i ∧ i < (m : Int) then _ else _) K h = _
  rw [if_pos ⟨h0, by simpa using h1⟩, SemH_sizeOf_bind, hc]
  exact SemH_part _ _ _ _

theorem op_extract (x : Operand) (i : Nat) {l : List Value} {v : Value} (hx : ρ x = .tuple l.toArray) (hv : l[i]? = some v) : opH P ρ ⟨d, .extract x i, ty, ps, af, gd⟩ K h = K v h := by
  unfold opH
  show SemH P (do pure (Next.value (← Instr.extract (ρ x) i))) (nextH P K) h = _
  rw [opV, hx]
  unfold Instr.extract
  simp only [List.getElem?_toArray, hv]
  rfl

/-- A function of the program's own that has a body. -/
def calleeB (P : Program) (f : FuncId) : Bool := match P.funcs[f]? with
  | some fn => !(fn.name == "runtime.NumGoroutine") && !fn.body.isNone
  | none => false

theorem SemH_callFunc {f : FuncId} (hf : calleeB P f = true) (args : Array Value) (Q : Next → Heap → Prop) (h : Heap) : SemH P (callFunc f args) Q h = Q (.enter f args) h := by
  unfold calleeB at hf
  unfold callFunc
  rw [SemH_bind]
  show SemH P (match P.funcs[f]? with | none => _ | some fn => _) Q h = _
  cases hfn : P.funcs[f]? with
  | none => rw [hfn] at hf; simp at hf
  | some fn =>
    rw [hfn] at hf
    simp only [Bool.and_eq_true, Bool.not_eq_true'] at hf
    dsimp only
    rw [if_neg (by rw [hf.1]; simp), if_neg (by rw [hf.2]; simp)]
    rfl

theorem op_call (f : FuncId) (args : Array Operand) (ts : Array TypeId) (hf : calleeB P f = true) {e : Env} :
    opH P (evalE e) ⟨d, .call ⟨.value (.func f), args, ts⟩, ty, ps, af, gd⟩ K h = CallsH P f (args.map (evalE e)) h K := by
  unfold opH
  show SemH P (do let d ← resolve (evalE e) ⟨.value (.func f), args, ts⟩ ty; invoke d.target d.args) (nextH P K) h = _
  rw [SemH_bind]
  show SemH P (callFunc f ((#[] ++ args.map (evalE e)) ++ #[])) (nextH P K) h = _
  rw [SemH_callFunc hf]
  simp [nextH]
end
end Go.H
