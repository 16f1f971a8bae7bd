/- Memory, block by block: what is read of a block, what a write makes of it. Its conditions: none. -/
import Derived.Test.YtekpbjiahlnknaaDoorVHVal
namespace Go.H

theorem add_none (b o n : Nat) : (⟨b, o, none⟩ : Addr).add n = ⟨b, o + n, none⟩ := by
  unfold Addr.add
  split
  · subst_vars; rfl
  · rfl

/-- n cells of a block, from o on. -/
def objCells (o n : Nat) : Obj → Option (List Value)
  | .cells c _ _ => if o + n ≤ c.size then some ((c.toList.drop o).take n) else none
  | _ => none
theorem objCells_Blk (o n : Nat) (t : TypeId) (l : List Value) : objCells o n (Blk t l) = if o + n ≤ l.length then some ((l.drop o).take n) else none := rfl

theorem mapM_some_spec {α β : Type} (f : α → Option β) : ∀ (l : List α), (∀ x ∈ l, (f x).isSome = true) → ∃ r : List β, l.mapM f = some r ∧ r.length = l.length ∧ ∀ i : Nat, r[i]? = (l[i]?).bind f
  | [], _ => ⟨[], rfl, rfl, fun i => by simp⟩
  | x :: l, hx => by
    obtain ⟨y, hy⟩ := Option.isSome_iff_exists.1 (hx x (by simp))
    obtain ⟨r, hr, hn, hi⟩ := mapM_some_spec f l (fun z hz => hx z (by simp [hz]))
    refine ⟨y :: r, by simp [hy, hr], by simp [hn], fun i => ?_⟩
    cases i with
    | zero => simp [hy]
    | succ i => simpa using hi i

theorem mapM_none {α β : Type} (f : α → Option β) : ∀ (l : List α) (x : α), x ∈ l → f x = none → l.mapM f = none
  | y :: l, x, hx, hn => by
    rcases List.mem_cons.1 hx with rfl | hx
    · simp [hn]
    · have := mapM_none f l x hx hn
      cases hy : f y <;> simp [hy, this]

theorem readCells_eq (h : Heap) (b o n : Nat) : readCells h ⟨b, o, none⟩ (n + 1) = (h[b]?).bind (objCells o (n + 1)) := by
  unfold readCells
  simp only [add_none, cellAt_eq]
  cases hb : h[b]? with
  | none => exact mapM_none _ _ 0 (by simp) rfl
  | some x =>
    simp only [Option.bind_some]
    cases x with
    | cells c t f =>
      simp only [objCells, objCell]
      by_cases hn : o + (n + 1) ≤ c.size
      · rw [if_pos hn]
        obtain ⟨r, hr, hl, hi⟩ := mapM_some_spec (fun j => c[o + j]?) (List.range (n + 1)) (fun j hj => by
          have : j < n + 1 := by simpa using hj
          simp; omega)
        rw [hr]
        congr 1
        apply List.ext_getElem?
        intro i
        rw [hi, List.getElem?_take]
        by_cases hlt : i < n + 1
        · rw [if_pos hlt, List.getElem?_range hlt]
          simp
        · rw [if_neg hlt, List.getElem?_eq_none (by simp; omega)]
          rfl
      · rw [if_neg hn]
        exact mapM_none _ _ n (by simp) (by simp; omega)
    | _ => exact mapM_none _ _ 0 (by simp) rfl

/-- Values laid over a list, from o on. -/
def putL (c : List Value) (o : Nat) : List Value → List Value
  | [] => c
  | v :: l => putL (c.set o v) (o + 1) l

theorem putL_length : ∀ (l c : List Value) (o : Nat), (putL c o l).length = c.length
  | [], _, _ => rfl
  | v :: l, c, o => by rw [putL, putL_length l]; simp

def objPut (o : Nat) (l : List Value) : Obj → Obj
  | .cells c t f => .cells (putL c.toList o l).toArray t f
  | x => x
theorem objPut_Blk (o : Nat) (l : List Value) (t : TypeId) (c : List Value) : objPut o l (Blk t c) = Blk t (putL c o l) := rfl

/-- May n cells be written, from o on? -/
def objOk (o n : Nat) : Obj → Bool
  | .cells c _ (lo, hi) => decide (o + n ≤ c.size) && (List.range n).all fun j => !(decide (lo ≤ o + j) && decide (o + j < hi))
  | _ => false
theorem objOk_Blk (o n : Nat) (t : TypeId) (c : List Value) : objOk o n (Blk t c) = decide (o + n ≤ c.length) := by
  simp [objOk, Blk]

def hput (h : Heap) (b o : Nat) (l : List Value) : Heap := h.modify b (objPut o l)
theorem hput_size (h : Heap) (b o : Nat) (l : List Value) : (hput h b o l).size = h.size := by simp [hput]
theorem hput_get (h : Heap) (b o : Nat) (l : List Value) (b' : Nat) : (hput h b o l)[b']? = if b = b' then (h[b']?).map (objPut o l) else h[b']? := by
  simp only [hput, Array.getElem?_modify]
theorem hput_same (h : Heap) (b o : Nat) (l : List Value) : (hput h b o l)[b]? = (h[b]?).map (objPut o l) := by rw [hput_get, if_pos rfl]
theorem hput_ne {b b' : Nat} (hne : b ≠ b') (h : Heap) (o : Nat) (l : List Value) : (hput h b o l)[b']? = h[b']? := by rw [hput_get, if_neg hne]
theorem hput_nil (h : Heap) (b o : Nat) : hput h b o [] = h := by
  apply Array.ext_getElem?
  intro i
  rw [hput_get]
  by_cases e : b = i
  · rw [if_pos e]
    cases h[i]? with
    | none => rfl
    | some x => cases x <;> simp [objPut, putL]
  · rw [if_neg e]
theorem hput_setAt (h : Heap) (b o : Nat) (v : Value) (l : List Value) : hput (setAt h ⟨b, o, none⟩ v) b (o + 1) l = hput h b o (v :: l) := by
  apply Array.ext_getElem?
  intro i
  rw [hput_get, hput_get]
  split
  · subst_vars
    rw [setAt_get, if_pos rfl]
    cases h[i]? with
    | none => rfl
    | some x => cases x <;> simp [objPut, objSet, putL]
  · rename_i hne
    rw [setAt_get, if_neg hne]

theorem isSome_get (c : Array Value) (i : Nat) : (c[i]?.isSome = true) = (i < c.size) := by simp

def blkOk (h : Heap) (b o n : Nat) : Bool := ((h[b]?).map (objOk o n)).getD false

theorem wrCells_eq : ∀ (l : List Value) (h : Heap) (b o i : Nat) (K : Heap → Prop), l ≠ [] →
    wrCells ⟨b, o, none⟩ l i h K = (l.all plainV = true ∧ blkOk h b (o + i) l.length = true ∧ K (hput h b (o + i) l))
  | v :: l, h, b, o, i, K, _ => by
    unfold wrCells
    rw [add_none, cellAt_eq, frozenAt_eq]
    have hok : ((plainV v = true ∧ ((h[b]?).bind (objCell (o + i))).isSome = true ∧ ((h[b]?).map (objFrozen (o + i))).getD false = false) ∧ (l ≠ [] → l.all plainV = true ∧ blkOk (setAt h ⟨b, o + i, none⟩ v) b (o + i + 1) l.length = true)) ↔
        ((v :: l).all plainV = true ∧ blkOk h b (o + i) (v :: l).length = true) := by
      unfold blkOk
      rw [setAt_get, if_pos rfl]
      cases h[b]? with
      | none => simp
      | some x =>
        cases x with
        | cells c t f =>
          obtain ⟨lo, hi⟩ := f
          simp only [Option.bind_some, objCell, Option.map_some, objFrozen, Option.getD_some, objSet, objOk, Array.size_setIfInBounds, List.all_cons, List.length_cons, Bool.and_eq_true, decide_eq_true_eq, List.all_eq_true, List.mem_range, Bool.not_eq_true', Bool.and_eq_false_iff, decide_eq_false_iff_not, isSome_get]
          constructor
          · rintro ⟨⟨h1, h2, h3⟩, h4⟩
            by_cases hl : l = []
            · subst hl
              refine ⟨⟨h1, by simp⟩, by simp only [List.length_nil]; omega, fun j hj => ?_⟩
              obtain rfl : j = 0 := by simpa using hj
              simpa using h3
            · obtain ⟨h5, h6, h7⟩ := h4 hl
              refine ⟨⟨h1, h5⟩, by omega, fun j hj => ?_⟩
              cases j with
              | zero => simpa using h3
              | succ j =>
                have := h7 j (by omega)
                rw [show o + i + (j + 1) = o + i + 1 + j from by omega]
                exact this
          · rintro ⟨⟨h1, h5⟩, h6, h7⟩
            refine ⟨⟨h1, by omega, by simpa using h7 0 (by omega)⟩, fun hl => ⟨h5, by omega, fun j hj => ?_⟩⟩
            have := h7 (j + 1) (by omega)
            rw [show o + i + (j + 1) = o + i + 1 + j from by omega] at this
            exact this
        | _ => simp [objCell, objOk]
    by_cases hl : l = []
    · subst hl
      have h0 : hput h b (o + i) [v] = setAt h ⟨b, o + i, none⟩ v := by rw [← hput_setAt, hput_nil]
      rw [h0]
      unfold wrCells
      simp only [ne_eq, not_true_eq_false, false_implies, and_true] at hok
      apply propext
      constructor
      · rintro ⟨h1, h2, h3, h4⟩
        exact ⟨(hok.1 ⟨h1, h2, h3⟩).1, (hok.1 ⟨h1, h2, h3⟩).2, h4⟩
      · rintro ⟨h1, h2, h4⟩
        obtain ⟨a, b, c⟩ := hok.2 ⟨h1, h2⟩
        exact ⟨a, b, c, h4⟩
    · rw [wrCells_eq l _ b o (i + 1) K hl, ← hput_setAt]
      simp only [ne_eq, hl, not_false_eq_true, true_implies] at hok
      rw [show o + (i + 1) = o + i + 1 from by omega]
      apply propext
      constructor
      · rintro ⟨h1, h2, h3, h4, h5, h6⟩
        obtain ⟨a, b⟩ := hok.1 ⟨⟨h1, h2, h3⟩, h4, h5⟩
        exact ⟨a, b, h6⟩
      · rintro ⟨h1, h2, h4⟩
        obtain ⟨⟨a, b, c⟩, d, e⟩ := hok.2 ⟨h1, h2⟩
        exact ⟨a, b, c, d, e, h4⟩

theorem wr_cons (b o : Nat) (v : Value) (l : List Value) (h : Heap) (K : Heap → Prop) :
    wrCells ⟨b, o, none⟩ (v :: l) 0 h K = ((v :: l).all plainV = true ∧ blkOk h b o (v :: l).length = true ∧ K (hput h b o (v :: l))) := wrCells_eq _ h b o 0 K (by simp)

theorem push_get (h : Heap) (o : Obj) (b : Nat) : (h.push o)[b]? = if b = h.size then some o else h[b]? := by
  rw [Array.getElem?_push]

attribute [go_sem] add_none objCells_Blk readCells_eq cellAt_eq objCell_Blk objPut_Blk objOk_Blk hput_same blkOk wr_cons plainV putL hput_size push_new
end Go.H
