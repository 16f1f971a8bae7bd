/- More operations: results in memory, built values, slices, append, make. Its conditions: none. -/
import Derived.Test.YtekpbjiahlnknaaDoorVHNum
namespace Go.H
set_option linter.unusedVariables false
set_option linter.unusedSimpArgs false
theorem mapM_append_one {α β : Type} (f : α → Option β) (x : α) : ∀ (l : List α), (l ++ [x]).mapM f = (l.mapM f).bind fun r => (f x).map fun y => r ++ [y]
  | [] => by cases hx : f x <;> simp [hx]
  | z :: l => by
    have := mapM_append_one f x l
    simp only [List.cons_append, List.mapM_cons, this]
    cases f z <;> simp
    cases l.mapM f <;> simp
    cases f x <;> simp

theorem cellsAt_eq (h : Heap) (a : Addr) : ∀ n, cellsAt h a n = readCells h a n
  | 0 => rfl
  | n + 1 => by
    unfold readCells
    rw [List.range_succ, mapM_append_one]
    have ih := cellsAt_eq h a n
    unfold readCells at ih
    rw [← ih]
    simp only [cellsAt]
    cases cellsAt h a n <;> simp
    cases cellAt h (a.add n) <;> simp

theorem res_cell {P : Program} {e : Env} {h : Heap} (a : Tmp) (t : TypeId) (l : List ResultVar) (K : List Value → Prop) :
    resH P e h (.cell a t :: l) K = pH (e a) fun p => oH (rdVar P h t p) fun v => resH P e h l (fun vs => K (v :: vs)) := by
  simp only [resH]
  unfold pH
  split
  · rename_i p hp
    rw [hp]
    dsimp only
    unfold okType readVar rdVar cellsT Program.cellsOf
    cases hi : P.info? t with
    | none =>
      have : P.underlying t = none := by unfold Program.underlying; rw [hi]
      rw [this]; simp [oH]
    | some i =>
      cases hu : P.underlying t with
      | none => simp [oH]
      | some d =>
        simp only [Option.isSome_some, Bool.and_self, true_and, Option.map_some, Option.getD_some, Option.bind_some, cellsAt_eq]
        by_cases hg : aggT (some d) = true
        · simp only [hg, if_true]
          cases readCells h p i.size <;> rfl
        · simp only [hg, if_false, Bool.false_eq_true]
          cases cellAt h p <;> rfl
  · rename_i hne
    cases hv : e a with
    | pointer x => cases x with
      | none => rfl
      | some p => exact (hne p hv).elim
    | _ => rfl

section
variable {P : Program} {K : Value → Heap → Prop} {h : Heap} {ρ : Operand → Value} {d : Option Tmp} {ty : TypeId} {ps : String} {af : Array Edge} {gd : Option (Nat × Bool)}

/-! built values -/
/-- The parts of a built value, laid over its zero value. -/
def fillL (place : Nat → Option (Nat × Nat)) : List (Nat × Value) → List Value → Option (List Value)
  | [], c => some c
  | (i, v) :: rest, c => (place i).bind fun x => if v.cells.size = x.2 ∧ x.1 + v.cells.size ≤ c.length then fillL place rest (putL c x.1 v.cells.toList) else none

theorem putL_foldl : ∀ (l : List Value) (c : Array Value) (o j : Nat), ((l.zipIdx j).foldl (fun cs (x : Value × Nat) => cs.setIfInBounds (o + x.2) x.1) c).toList = putL c.toList (o + j) l
  | [], c, o, j => rfl
  | v :: l, c, o, j => by
    simp only [List.zipIdx_cons, List.foldl_cons, putL]
    rw [putL_foldl l _ o (j + 1)]
    simp [Nat.add_assoc]

theorem fill_eq (place : Nat → Option (Nat × Nat)) : ∀ (l : List (Nat × Value)) (c : Array Value), Instr.fill place c l = (fillL place l c.toList).map List.toArray
  | [], c => by simp [Instr.fill, fillL]
  | (i, v) :: rest, c => by
    simp only [Instr.fill, fillL]
    cases place i with
    | none => rfl
    | some x =>
      obtain ⟨o, n⟩ := x
      simp only [Option.bind_some]
      by_cases hn : v.cells.size = n ∧ o + v.cells.size ≤ c.size
      · rw [if_neg (by simp; omega), if_pos (by simpa using hn), fill_eq place rest]
        congr 2
        rw [← Array.foldl_toList]
        have := putL_foldl v.cells.toList c o 0
        simp only [Nat.add_zero] at this
        rw [← this]
        congr 2
        simp
      · rw [if_pos (by simp; omega), if_neg (by simpa using hn)]
        rfl


/-- Where a part of a built value lies, and how many cells it has. -/
def plT (P : Program) (t : TypeId) (i : Nat) : Option (Nat × Nat) := match P.underlying t with
  | some (.struct fs) => (fs[i]?).map fun f => (f.offset, (cellsT P f.type).getD 0)
  | some (.array _ e) => (cellsT P e).map fun n => (i * n, n)
  | _ => none
def buildB (P : Program) (t : TypeId) : Bool := match P.underlying t with
  | some (.struct fs) => fs.toList.all fun f => (cellsT P f.type).isSome
  | some (.array _ e) => (cellsT P e).isSome
  | _ => false

theorem SemH_mapM {α β : Type} (f : α → Sem β) (g : α → β) (_hfg : ∀ x (Q : β → Heap → Prop) (h : Heap), SemH P (f x) Q h = Q (g x) h) : ∀ (l : List α) (Q : List β → Heap → Prop) (h : Heap), SemH P (l.mapM f) Q h = Q (l.map g) h
  | [], Q, h => rfl
  | x :: l, Q, h => by
    rw [List.mapM_cons, SemH_bind, _hfg, SemH_bind, SemH_mapM f g _hfg l]
    rfl
theorem SemH_mapM' {α β : Type} (f : α → Sem β) (g : α → β) : ∀ (l : List α) (hfg : ∀ x ∈ l, ∀ (Q : β → Heap → Prop) (h : Heap), SemH P (f x) Q h = Q (g x) h) (Q : List β → Heap → Prop) (h : Heap), SemH P (l.mapM f) Q h = Q (l.map g) h
  | [], _, Q, h => rfl
  | x :: l, hfg, Q, h => by
    rw [List.mapM_cons, SemH_bind, hfg x (by simp), SemH_bind, SemH_mapM' f g l (fun y hy => hfg y (by simp [hy]))]
    rfl

theorem SemH_map {α β : Type} (s : Sem α) (f : α → β) (Q : β → Heap → Prop) (h : Heap) : SemH P (f <$> s) Q h = SemH P s (fun a h' => Q (f a) h') h := by
  show SemH P (s >>= fun a => pure (f a)) Q h = _
  rw [SemH_bind]
  rfl

def bdH (P : Program) (t : TypeId) (parts : List (Nat × Value)) (K : Value → Heap → Prop) (h : Heap) : Prop := SemH P (Instr.build t parts.toArray) K h
theorem op_build (t : TypeId) (parts : List (Nat × Operand)) : opH P ρ ⟨d, .build t parts.toArray, ty, ps, af, gd⟩ K h = bdH P t (parts.map fun x => (x.1, ρ x.2)) K h := by
  unfold bdH
  refine (opV (P := P) (K := K) (h := h) _).trans ?_
  congr 2
  simp
theorem bd_eq (t : TypeId) (parts : List (Nat × Value)) (hb : buildB P t = true) : bdH P t parts K h = oH (zeroT P t) fun z => oH (fillL (plT P t) parts z.cells.toList) fun l => K (.agg l.toArray) h := by
  unfold bdH Instr.build
  rw [SemH_bind, SemH_zeroValue]
  congr 1
  funext z
  rw [SemH_bind, SemH_underlying]
  unfold buildB at hb
  cases hu : P.underlying t with
  | none => rw [hu] at hb; cases hb
  | some dd =>
    rw [hu] at hb
    cases dd <;> first | (cases hb; done) | skip
    case array m e =>
      simp only [oH_some]
      obtain ⟨n, hn⟩ := Option.isSome_iff_exists.1 hb
      rw [SemH_sizeOf_bind, hn, oH_some, fill_eq]
      have : (fun i => some (i * n, n)) = plT P t := by funext i; simp [plT, hu, hn]
      rw [this]
      cases fillL (plT P t) parts z.cells.toList <;> rfl
    case struct fs =>
      simp only [oH_some]
      rw [SemH_bind, Array.mapM_eq_mapM_toList, SemH_map, SemH_mapM' _ (fun f => (f.offset, (cellsT P f.type).getD 0))]
      · rw [fill_eq]
        have : (fun i => ((List.map (fun f : Field => (f.offset, (cellsT P f.type).getD 0)) fs.toList).toArray)[i]?) = plT P t := by
          funext i
          simp [plT, hu]
        rw [this]
        cases fillL (plT P t) parts z.cells.toList <;> rfl
      · intro f hf Q h
        rw [SemH_sizeOf_bind]
        rw [List.all_eq_true] at hb
        obtain ⟨n, hn⟩ := Option.isSome_iff_exists.1 (hb f hf)
        rw [hn]
        rfl

def eltT (P : Program) (t : TypeId) : Option TypeId := match P.underlying t with | some (.slice e) => some e | _ => none
/-- The zero cells of n elements. -/
def zerosL (P : Program) (e : TypeId) (n : Nat) : List Value := (List.replicate n ((zeroT P e).map fun z => z.cells.toList).toList.flatten).flatten

def bsH (P : Program) (t : TypeId) (len : Nat) (parts : List (Nat × Value)) (K : Value → Heap → Prop) (h : Heap) : Prop := SemH P (Instr.buildSlice t len parts.toArray) K h
theorem op_buildSlice (t : TypeId) (len : Nat) (parts : List (Nat × Operand)) : opH P ρ ⟨d, .buildSlice t len parts.toArray, ty, ps, af, gd⟩ K h = bsH P t len (parts.map fun x => (x.1, ρ x.2)) K h := by
  unfold bsH
  refine (opV (P := P) (K := K) (h := h) _).trans ?_
  congr 2
  simp
/-- Is the zero value of a slice's element as long as its cells? -/
def elB (P : Program) (t : TypeId) : Bool := match P.underlying t with
  | some (.slice e) => (match zeroT P e, cellsT P e with | some z, some n => z.cells.size == n && n != 0 | _, _ => false)
  | _ => false

theorem cyc_eq (z : Array Value) (_hz : z.size ≠ 0) (len : Nat) : (Array.range (len * z.size)).map (z[· % z.size]!) = ((List.replicate len z.toList).flatten).toArray := by
  apply Array.ext'
  simp only [Array.toList_map, Array.toList_range]
  induction len with
  | zero => simp
  | succ n ih =>
    rw [Nat.succ_mul, List.range_add, List.map_append, ih, List.replicate_succ', List.flatten_append]
    congr 1
    simp only [List.map_map, List.flatten_cons, List.flatten_nil, List.append_nil]
    apply List.ext_getElem
    · simp
    · intro i h1 h2
      simp at h1
      simp only [List.getElem_map, List.getElem_range, Function.comp]
      rw [Nat.mul_comm n, Nat.mul_add_mod, Nat.mod_eq_of_lt h1]
      simp [h1]

theorem bs_eq (t : TypeId) (len : Nat) (parts : List (Nat × Value)) (hb : elB P t = true) : bsH P t len parts K h = oH (eltT P t) fun e => oH (zeroT P e) fun z =>
    len * z.cells.size ≤ 16777216 ∧ oH (fillL (fun i => some (i * z.cells.size, z.cells.size)) parts (List.replicate len z.cells.toList).flatten) fun l =>
      K (.slice (some ⟨h.size, 0, none⟩) len len) (h.push (Blk e l)) := by
  unfold bsH Instr.buildSlice
  rw [SemH_bind, SemH_underlying]
  unfold elB at hb
  unfold eltT
  cases hu : P.underlying t with
  | none => rw [hu] at hb; cases hb
  | some dd =>
    rw [hu] at hb
    cases dd <;> first | (cases hb; done) | skip
    rename_i e
    dsimp only at hb ⊢
    simp only [oH_some]
    cases hz : zeroT P e with
    | none => rw [hz] at hb; cases hb
    | some z =>
      cases hc : cellsT P e with
      | none => rw [hz, hc] at hb; cases hb
      | some n =>
        rw [hz, hc] at hb
        simp only [Bool.and_eq_true, beq_iff_eq, bne_iff_ne, ne_eq] at hb
        obtain ⟨rfl, hn⟩ := hb
        rw [SemH_sizeOf_bind, hc]
        simp only [oH_some]
        by_cases hl : len * z.cells.size ≤ 16777216
        · rw [if_neg (by simpa using hl)]
          simp only [hl, true_and]
          by_cases h0 : len * z.cells.size = 0
          · rw [if_pos h0, SemH_bind]
            have hl0 : len = 0 := by
              rcases Nat.mul_eq_zero.1 h0 with h1 | h1
              · exact h1
              · exact absurd h1 hn
            subst hl0
            rw [SemH_pure, fill_eq]
            simp only [Nat.zero_mul, List.replicate_zero, List.flatten_nil]
            have : ((Array.range 0).map (fun x => (#[] : Array Value)[x % (#[] : Array Value).size]!)).toList = [] := by simp
            simp only [SemH_pure, this]
            cases fillL (fun i => some (i * z.cells.size, z.cells.size)) parts [] with
            | none => rfl
            | some l =>
              show SemH P (do pure (.slice (some (← newRow e l.toArray)) 0 0)) K h = _
              rw [SemH_bind, SemH_newRow]
              rfl
          · rw [if_neg h0, SemH_bind, SemH_zeroValue, hz]
            simp only [oH_some, SemH_bind, SemH_pure]
            rw [cyc_eq _ hn, fill_eq]
            simp only [List.toList_toArray]
            cases fillL (fun i => some (i * z.cells.size, z.cells.size)) parts (List.replicate len z.cells.toList).flatten with
            | none => rfl
            | some l =>
              show SemH P (do pure (.slice (some (← newRow e l.toArray)) len len)) K h = _
              rw [SemH_bind, SemH_newRow]
              rfl
        · rw [if_pos (by simpa using hl)]
          simp only [hl, false_and]
          rfl


/-! slices of slices -/
def bdv (v : Value) (y : Nat) (K : Nat → Prop) : Prop := iH v fun i => 0 ≤ i ∧ i ≤ y ∧ K i.toNat
theorem bdv_int (k : IntKind) (i : Int) (y : Nat) (K : Nat → Prop) : bdv (.int k i) y K = (0 ≤ i ∧ i ≤ y ∧ K i.toNat) := rfl
theorem SemH_sliceBound (v : Value) (y : Nat) (c : BoundsCode) (Q : Nat → Heap → Prop) (h : Heap) : SemH P (Instr.sliceBound v y c) Q h = bdv v y fun n => Q n h := by
  unfold Instr.sliceBound bdv iH
  cases v <;> first | rfl | skip
  case int k i =>
    show SemH P (if 0 ≤ i ∧ i ≤ (y : Int) then pure i.toNat else boundsPanic k i y c) Q h = _
    by_cases h0 : 0 ≤ i ∧ i ≤ (y : Int)
    · rw [if_pos h0]; simp only [h0.1, h0.2, true_and]; rfl
    · rw [if_neg h0]
      exact propext ⟨fun hh => (SemH_boundsPanic _ _ _ _ _ _ hh).elim, fun hh => (h0 ⟨hh.1, hh.2.1⟩).elim⟩
  case pointer a => cases a <;> rfl

/-- The bounds of a cut. -/
def cutH (len cap : Nat) (lo hi mx : Option Value) (K : Nat → Nat → Nat → Prop) : Prop :=
  match mx with
  | some m => bdv m cap fun m => (match hi with
    | some v => bdv v m fun h => (match lo with | some v => bdv v h fun l => K l h m | none => K 0 h m)
    | none => False)
  | none => match hi with
    | some v => bdv v cap fun h => (match lo with | some v => bdv v h fun l => K l h cap | none => K 0 h cap)
    | none => match lo with | some v => bdv v len fun l => K l len cap | none => K 0 len cap
theorem SemH_sliceBounds (b : Bool) (len cap : Nat) (lo hi mx : Option Value) (Q : Nat × Nat × Nat → Heap → Prop) (h : Heap) :
    SemH P (Instr.sliceBounds b len cap lo hi mx) Q h = cutH len cap lo hi mx fun l x m => Q (l, x, m) h := by
  unfold Instr.sliceBounds cutH
  cases mx <;> cases hi <;> cases lo <;> simp only [SemH_bind, SemH_sliceBound, SemH_pure] <;> first | rfl | skip
  all_goals
    congr 1
    funext m
    first
      | rfl
      | (unfold iH; cases ‹Value› <;> rfl)

def slH (P : Program) (t : TypeId) (v : Value) (lo hi mx : Option Value) (K : Value → Heap → Prop) (h : Heap) : Prop := SemH P (Instr.sliceAt t v lo hi mx) K h
theorem op_slice (t : TypeId) (x : Operand) (lo hi mx : Option Operand) : opH P ρ ⟨d, .slice t x lo hi mx, ty, ps, af, gd⟩ K h = slH P t (ρ x) (lo.map ρ) (hi.map ρ) (mx.map ρ) K h := opV _
theorem sl_slice (t : TypeId) (a : Option Addr) (len cap : Nat) (lo hi mx : Option Value) (hs : (slT P t).isSome = true) :
    slH P t (.slice a len cap) lo hi mx K h = oH (slT P t) fun n => cutH len cap lo hi mx fun l x m => K (.slice (if m = l then a else a.map (·.add (l * n))) (x - l) (m - l)) h := by
  obtain ⟨n, hn⟩ := Option.isSome_iff_exists.1 hs
  rw [hn, oH_some]
  unfold slT at hn
  cases hu : P.underlying t with
  | none => rw [hu] at hn; simp at hn
  | some dd =>
    rw [hu] at hn
    cases dd <;> first | (simp at hn; done) | skip
    rename_i e
    dsimp only at hn
    unfold slH Instr.sliceAt Instr.slice
    simp only [SemH_bind, SemH_underlying, hu, oH_some]
    rw [SemH_sliceBounds]
    simp only [SemH_sizeOf, hn, oH_some]
    rfl
theorem sl_string (t : TypeId) (s : ByteArray) (lo hi : Option Value) (hs : stB P t = true) :
    slH P t (.string s) lo hi none K h = cutH s.size s.size lo hi none fun l x _ => K (.string (s.extract l x)) h := by
  have hu := stB_spec hs
  unfold slH Instr.sliceAt Instr.slice
  simp only [SemH_bind, SemH_underlying, hu, oH_some]
  show SemH P (Instr.sliceBounds false s.size s.size lo hi none >>= _) K h = _
  rw [SemH_bind, SemH_sliceBounds]
  rfl
theorem sl_array (t : TypeId) (a : Addr) (lo hi mx : Option Value) (hs : (arT P t).isSome = true) :
    slH P t (.pointer (some a)) lo hi mx K h = oH (arT P t) fun x => cutH x.1 x.1 lo hi mx fun l y m => K (.slice (some (if m = l then a else a.add (l * x.2.2))) (y - l) (m - l)) h := by
  obtain ⟨⟨m, e, n⟩, hn⟩ := Option.isSome_iff_exists.1 hs
  rw [hn, oH_some]
  dsimp only
  unfold arT at hn
  cases hu : P.underlying t with
  | none => rw [hu] at hn; simp at hn
  | some dd =>
    rw [hu] at hn
    cases dd <;> first | (simp at hn; done) | skip
    rename_i m' e'
    simp only [Option.map_eq_some_iff, Prod.mk.injEq] at hn
    obtain ⟨n', hc, rfl, rfl, rfl⟩ := hn
    unfold slH Instr.sliceAt
    simp only [SemH_bind, SemH_underlying, hu, oH_some]
    rw [SemH_sureAddr, pH_some, SemH_sliceBounds]
    simp only [SemH_sizeOf, hc, oH_some]
    rfl

/-! make -/
def byT (P : Program) (t : TypeId) : Option Nat := match P.underlying t with | some (.slice e) => bytesT P e | _ => none
def mkH (P : Program) (t : TypeId) (v w : Value) (K : Value → Heap → Prop) (h : Heap) : Prop := SemH P (Instr.makeSlice t v w) K h
theorem op_makeSlice (t : TypeId) (x y : Operand) : opH P ρ ⟨d, .makeSlice t x y, ty, ps, af, gd⟩ K h = mkH P t (ρ x) (ρ y) K h := opV _
theorem SemH_askRoom (n : Nat) (Q : Unit → Heap → Prop) (h : Heap) : SemH P (askRoom n) Q h = Q () h := by
  unfold askRoom
  split <;> rfl
theorem mk_slice (t : TypeId) (j k : IntKind) (l c : Nat) (hb : elB P t = true) (hlc : l ≤ c) (hby : ∀ b, byT P t = some b → b * c ≤ 281474976710656) (hc : c ≤ 281474976710656)
    {e : TypeId} {z : Value} (he : eltT P t = some e) (hz : zeroT P e = some z)
    (hk : K (.slice (some ⟨h.size, 0, none⟩) l c) (h.push (Blk e (List.replicate c z.cells.toList).flatten))) : mkH P t (.int j l) (.int k c) K h := by
  unfold mkH Instr.makeSlice
  rw [SemH_bind, SemH_underlying]
  unfold elB at hb
  unfold eltT at he
  unfold byT bytesT at hby
  cases hu : P.underlying t with
  | none => rw [hu] at hb; cases hb
  | some dd =>
    rw [hu] at hb he hby
    cases dd <;> first | (cases hb; done) | skip
    rename_i e'
    dsimp only at hb he hby
    obtain rfl : e' = e := by simpa using he
    rw [hz] at hb
    cases hcn : cellsT P e' with
    | none => rw [hcn] at hb; cases hb
    | some n =>
      rw [hcn] at hb
      simp only [Bool.and_eq_true, beq_iff_eq, bne_iff_ne, ne_eq] at hb
      obtain ⟨rfl, hn⟩ := hb
      cases hi : P.info? e' with
      | none => unfold cellsT at hcn; rw [hi] at hcn; cases hcn
      | some i =>
        have hby' := hby i.bytes (by rw [hi]; rfl)
        simp only [oH_some]
        rw [SemH_bind]
        show SemH P (pure (l : Int)) _ h
        rw [SemH_pure, SemH_bind]
        show SemH P (pure (c : Int)) _ h
        rw [SemH_pure, SemH_bind, SemH_typeInfo, hi]
        simp only [oH_some]
        have hw1 : IntKind.i64.wrap (l : Int) = l := w_i64 (by omega) (by omega)
        have hw2 : IntKind.i64.wrap (c : Int) = c := w_i64 (by omega) (by omega)
        rw [hw1, hw2]
        have hbig : ¬ ((i.bytes : Int) * (c : Int) > 2 ^ 48) := by
          have : (i.bytes : Int) * (c : Int) = ((i.bytes * c : Nat) : Int) := by simp
          rw [this]
          have h2 : (2 : Int) ^ 48 = 281474976710656 := by decide
          omega
        rw [if_neg (by
          have h1 : ¬ ((c : Int) < 0) := by omega
          have h2 : ¬ ((l : Int) < 0) := by omega
          have h3 : ¬ ((l : Int) > (c : Int)) := by omega
          simp [h1, h2, h3, hbig]
          omega)]
        rw [SemH_bind, SemH_askRoom, SemH_sizeOf_bind, hcn]
        simp only [oH_some, Int.toNat_natCast]
        by_cases h0 : c * z.cells.size = 0
        · rw [if_pos h0, SemH_bind, SemH_pure, SemH_bind, SemH_newRow]
          have hc0 : c = 0 := by
            rcases Nat.mul_eq_zero.1 h0 with h1 | h1
            · exact h1
            · exact absurd h1 hn
          subst hc0
          rw [SemH_pure]
          simpa using hk
        · rw [if_neg h0, SemH_bind, SemH_zeroValue, hz]
          simp only [oH_some, SemH_bind, SemH_pure]
          rw [cyc_eq _ hn, SemH_newRow]
          exact hk

end
attribute [go_sem] res_cell fillL op_build bd_eq op_buildSlice bs_eq bdv_int cutH op_slice sl_slice sl_string sl_array op_makeSlice eltT
end Go.H
