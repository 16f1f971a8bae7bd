/- More of the operations: nil slices, strings, interface values, least and greatest, methods, functions without a body. Its conditions: none. -/
import Derived.Test.YtekpbjiahlnknaaDoorVHSl
namespace Go.H
set_option linter.unusedVariables false
set_option linter.unusedSimpArgs false
section
variable {P : Program} {K : Value → Heap → Prop} {h : Heap} {ρ : Operand → Value} {d : Option Tmp} {ty : TypeId} {ps : String} {af : Array Edge} {gd : Option (Nat × Bool)}

theorem bin_eql_slice_nil (t : TypeId) (x y : Operand) (a : Option Addr) (n c m k : Nat) (hi : slB P t = true) :
    binH P .eql t x y (.slice a n c) (.slice none m k) K h = K (.bool a.isNone) h := by
  obtain ⟨_, hu⟩ := slB_spec hi
  unfold binH; rw [SemH_bind]
  show SemH P (do pure (.bool (← Op.equal t (.slice a n c) (.slice none m k)))) K h = _
  unfold Op.equal Op.maxDepth Op.equalIn
  simp only [SemH_bind, SemH_underlying, hu, oH_some]
  cases a <;> rfl
theorem bin_neq_slice_nil (t : TypeId) (x y : Operand) (a : Option Addr) (n c m k : Nat) (hi : slB P t = true) :
    binH P .neq t x y (.slice a n c) (.slice none m k) K h = K (.bool (!a.isNone)) h := by
  obtain ⟨_, hu⟩ := slB_spec hi
  unfold binH; rw [SemH_bind]
  show SemH P (do pure (.bool (!(← Op.equal t (.slice a n c) (.slice none m k))))) K h = _
  unfold Op.equal Op.maxDepth Op.equalIn
  simp only [SemH_bind, SemH_underlying, hu, oH_some]
  cases a <;> rfl
/-- Two strings, byte by byte. -/
def strEq (a b : ByteArray) : Bool := a.toList == b.toList
theorem strEq_refl (a : ByteArray) : strEq a a = true := by simp [strEq]
theorem bin_eql_string (t : TypeId) (x y : Operand) (a b : ByteArray) (hi : stB P t = true) :
    binH P .eql t x y (.string a) (.string b) K h = K (.bool (strEq a b)) h := by
  have hu := stB_spec hi
  unfold binH; rw [SemH_bind]
  rfl
theorem bin_neq_string (t : TypeId) (x y : Operand) (a b : ByteArray) (hi : stB P t = true) :
    binH P .neq t x y (.string a) (.string b) K h = K (.bool (!strEq a b)) h := by
  have hu := stB_spec hi
  unfold binH; rw [SemH_bind]
  rfl
theorem bin_eql_bool (t : TypeId) (x y : Operand) (a b : Bool) (hi : boolT P t = true) :
    binH P .eql t x y (.bool a) (.bool b) K h = K (.bool (a == b)) h := by
  unfold boolT at hi
  split at hi
  · rename_i hu
    unfold binH; rw [SemH_bind]
    show SemH P (do pure (.bool (← Op.equal t (.bool a) (.bool b)))) K h = _
    unfold Op.equal Op.maxDepth Op.equalIn
    simp only [SemH_bind, SemH_underlying, hu, oH_some]
    rfl
  · cases hi
theorem bin_neq_bool (t : TypeId) (x y : Operand) (a b : Bool) (hi : boolT P t = true) :
    binH P .neq t x y (.bool a) (.bool b) K h = K (.bool (!(a == b))) h := by
  unfold boolT at hi
  split at hi
  · rename_i hu
    unfold binH; rw [SemH_bind]
    show SemH P (do pure (.bool (!(← Op.equal t (.bool a) (.bool b))))) K h = _
    unfold Op.equal Op.maxDepth Op.equalIn
    simp only [SemH_bind, SemH_underlying, hu, oH_some]
    rfl
  · cases hi

/-- Two interface values of two types, or of one type of numbers. -/
theorem bin_eql_iface_ne (t : TypeId) (x y : Operand) (u w : TypeId) (a b : Value) (hi : itT P t = true) (hne : (u == w) = false) :
    binH P .eql t x y (.iface u a) (.iface w b) K h = K (.bool false) h := by
  obtain ⟨_, hu⟩ := itT_spec hi
  unfold binH; rw [SemH_bind]
  show SemH P (do pure (.bool (← Op.equal t (.iface u a) (.iface w b)))) K h = _
  unfold Op.equal Op.maxDepth Op.equalIn
  simp only [SemH_bind, SemH_underlying, hu, oH_some]
  rw [if_pos (by simpa using hne)]
  rfl
def cmpT (P : Program) (t : TypeId) : Bool := ((P.info? t).map fun i => i.comparable).getD false
theorem bin_eql_iface_int (t : TypeId) (x y : Operand) (u : TypeId) (k : IntKind) (a b : Int) (hi : itT P t = true) (hc : cmpT P u = true) (hn : (intT P u).isSome = true) :
    binH P .eql t x y (.iface u (.int k a)) (.iface u (.int k b)) K h = K (.bool (decide (a = b))) h := by
  obtain ⟨_, hu⟩ := itT_spec hi
  obtain ⟨k', hk⟩ := intT_spec hn
  unfold binH; rw [SemH_bind]
  show SemH P (do pure (.bool (← Op.equal t (.iface u (.int k a)) (.iface u (.int k b))))) K h = _
  unfold cmpT at hc
  cases hin : P.info? u with
  | none => rw [hin] at hc; cases hc
  | some i =>
    rw [hin] at hc
    unfold Op.equal Op.maxDepth Op.equalIn
    simp only [SemH_bind, SemH_underlying, hu, oH_some, ne_eq, not_true_eq_false, if_false, SemH_typeInfo, hin]
    rw [if_neg (by simpa using hc)]
    unfold Op.equalIn
    simp only [SemH_bind, SemH_underlying, hk, oH_some, if_true]
    show K (.bool (a == b)) h = _
    rw [show (a == b) = decide (a = b) from by by_cases e : a = b <;> simp [e]]

/-! least, greatest -/
theorem op_max2 (x y : Operand) (a b : TypeId) : opH P ρ ⟨d, .call ⟨.builtin .max, #[x, y], #[a, b]⟩, ty, ps, af, gd⟩ K h = SemH P (Builtin.max2 (ρ x) (ρ y)) K h := by
  rw [op_builtin, show (#[x, y] : Array Operand).map ρ = #[ρ x, ρ y] from by simp]
  refine (opV (P := P) (K := K) (h := h) _).trans ?_
  unfold Builtin.max_
  simp only [List.foldlM_cons, List.foldlM_nil, SemH_bind, SemH_pure]
theorem op_min2 (x y : Operand) (a b : TypeId) : opH P ρ ⟨d, .call ⟨.builtin .min, #[x, y], #[a, b]⟩, ty, ps, af, gd⟩ K h = SemH P (Builtin.min2 (ρ x) (ρ y)) K h := by
  rw [op_builtin, show (#[x, y] : Array Operand).map ρ = #[ρ x, ρ y] from by simp]
  refine (opV (P := P) (K := K) (h := h) _).trans ?_
  unfold Builtin.min_
  simp only [List.foldlM_cons, List.foldlM_nil, SemH_bind, SemH_pure]
def mxH (P : Program) (v w : Value) (K : Value → Heap → Prop) (h : Heap) : Prop := SemH P (Builtin.max2 v w) K h
def mnH (P : Program) (v w : Value) (K : Value → Heap → Prop) (h : Heap) : Prop := SemH P (Builtin.min2 v w) K h
theorem op_max (x y : Operand) (a b : TypeId) : opH P ρ ⟨d, .call ⟨.builtin .max, #[x, y], #[a, b]⟩, ty, ps, af, gd⟩ K h = mxH P (ρ x) (ρ y) K h := op_max2 x y a b
theorem op_min (x y : Operand) (a b : TypeId) : opH P ρ ⟨d, .call ⟨.builtin .min, #[x, y], #[a, b]⟩, ty, ps, af, gd⟩ K h = mnH P (ρ x) (ρ y) K h := op_min2 x y a b
theorem mx_int (k j : IntKind) (a b : Int) : mxH P (.int k a) (.int j b) K h = K (.int k (if a < b then b else a)) h := rfl
theorem mn_int (k j : IntKind) (a b : Int) : mnH P (.int k a) (.int j b) K h = K (.int k (if b < a then b else a)) h := rfl
@[congr] theorem c_mxH {v v' w w' : Value} (h1 : v = v') (h2 : w = w') : mxH P v w K h = mxH P v' w' K h := by rw [h1, h2]
@[congr] theorem c_mnH {v v' w w' : Value} (h1 : v = v') (h2 : w = w') : mnH P v w K h = mnH P v' w' K h := by rw [h1, h2]

/-! a byte of a string -/
def strAt (s : ByteArray) (i : Int) : Option Nat := if 0 ≤ i then (s[i.toNat]?).map UInt8.toNat else none
theorem el_string (t : TypeId) (s : ByteArray) (k : IntKind) (i : Int) (hs : stB P t = true) :
    elH P t (.string s) (.int k i) K h = oH (strAt s i) fun n => K (.int .u8 (n : Nat)) h := by
  have hu := stB_spec hs
  unfold elH Instr.index asIntOf strAt
  simp only [SemH_bind, SemH_pure, SemH_underlying, hu, oH_some]
  by_cases h0 : 0 ≤ i
  · simp only [if_pos h0]
    cases hc : s[i.toNat]? with
    | none => exact propext ⟨fun hh => (SemH_boundsPanic _ _ _ _ _ _ hh).elim, fun hh => hh.elim⟩
    | some b => rfl
  · simp only [if_neg h0]
    exact propext ⟨fun hh => (SemH_boundsPanic _ _ _ _ _ _ hh).elim, fun hh => hh.elim⟩

/-- A table of a row of bytes, looked into by a byte. -/
def tabB (s : ByteArray) (f : Nat → Nat) : Bool := (List.range 256).all fun i => strAt s i == some (f i)
theorem el_tab {s : ByteArray} {f : Nat → Nat} (t : TypeId) (k : IntKind) (x : Nat) (hs : stB P t = true) (hf : tabB s f = true) (hx : x < 256) :
    elH P t (.string s) (.int k x) K h = K (.int .u8 (f x : Nat)) h := by
  rw [el_string t s k x hs]
  unfold tabB at hf
  rw [List.all_eq_true] at hf
  have := hf x (by simpa using hx)
  rw [beq_iff_eq] at this
  rw [this, oH_some]

/-! methods of interface values, functions without a body -/
def ivH (P : Program) (name : String) (v : Value) (args : Array Value) (K : Value → Heap → Prop) (h : Heap) : Prop := SemH P (callMethod v name args) (nextH P K) h
theorem op_invoke (x : Operand) (name : String) (args : Array Operand) (ts : Array TypeId) {e : Env} :
    opH P (evalE e) ⟨d, .call ⟨.invoke x name, args, ts⟩, ty, ps, af, gd⟩ K h = ivH P name (evalE e x) (args.map (evalE e)) K h := by
  unfold opH
  show SemH P (do let d ← resolve (evalE e) ⟨.invoke x name, args, ts⟩ ty; invoke d.target d.args) (nextH P K) h = _
  rw [SemH_bind]
  show SemH P (invoke (.fn (.method name) #[]) (#[evalE e x] ++ args.map (evalE e))) (nextH P K) h = _
  have h1 : (#[evalE e x] ++ args.map (evalE e))[0]? = some (evalE e x) := by
    rw [Array.getElem?_append_left (by simp)]; rfl
  have h2 : (#[evalE e x] ++ args.map (evalE e)).extract 1 (#[evalE e x] ++ args.map (evalE e)).size = args.map (evalE e) := by
    apply Array.ext'
    rw [Array.toList_extract]
    simp [List.extract]
    rw [List.take_of_length_le (by simp)]
  unfold invoke
  simp only [h1, h2]
  rfl
@[congr] theorem c_ivH {n : String} {v v' : Value} {a a' : Array Value} (h1 : v = v') (h2 : a = a') : ivH P n v a K h = ivH P n v' a' K h := by rw [h1, h2]

def calleeX (P : Program) (f : FuncId) : Bool := match P.funcs[f]? with | some fn => fn.body.isNone | none => false
def xcH (P : Program) (f : FuncId) (args : Array Value) (K : Value → Heap → Prop) (h : Heap) : Prop := SemH P (callFunc f args) (nextH P K) h
theorem op_callx (f : FuncId) (args : Array Operand) (ts : Array TypeId) (_hf : calleeX P f = true) {e : Env} :
    opH P (evalE e) ⟨d, .call ⟨.value (.func f), args, ts⟩, ty, ps, af, gd⟩ K h = xcH P f (args.map (evalE e)) K h := by
  unfold opH
  show SemH P (do let d ← resolve (evalE e) ⟨.value (.func f), args, ts⟩ ty; invoke d.target d.args) (nextH P K) h = _
  rw [SemH_bind]
  show SemH P (callFunc f ((#[] ++ args.map (evalE e)) ++ #[])) (nextH P K) h = _
  simp [xcH]
@[congr] theorem c_xcH {f : FuncId} {a a' : Array Value} (h1 : a = a') : xcH P f a K h = xcH P f a' K h := by rw [h1]

/-! what an interface value holds -/
def taH (P : Program) (t u : TypeId) (b : Bool) (v : Value) (K : Value → Heap → Prop) (h : Heap) : Prop := SemH P (Instr.typeAssert v t u b) K h
theorem op_ta (x : Operand) (t u : TypeId) (b : Bool) : opH P ρ ⟨d, .typeAssert x t u b, ty, ps, af, gd⟩ K h = taH P t u b (ρ x) K h := opV _
@[congr] theorem c_taH {t u : TypeId} {b : Bool} {v v' : Value} (h1 : v = v') : taH P t u b v K h = taH P t u b v' K h := by rw [h1]

/-- The methods that a type lacks of some. -/
def lackL (want : Array (String × TypeId)) (got : Array Method) : List String := (want.toList.filter fun (name, sig) => !got.any fun m => m.name == name && m.sig == sig).map (·.1)
theorem least_some {l : List String} (h : l ≠ []) : ∃ s, Instr.least l = some s := by
  cases l with
  | nil => exact absurd rfl h
  | cons a l => exact ⟨_, rfl⟩
theorem missing_nil {want : Array (String × TypeId)} {got : Array Method} (h : lackL want got = []) : Instr.missingMethod want got = none := by
  unfold Instr.missingMethod
  unfold lackL at h
  simp only [h]
  rfl
theorem part_ne (p : String → Bool) {l : List String} (h : l ≠ []) : l.filter p ≠ [] ∨ l.filter ((fun x => !x) ∘ p) ≠ [] := by
  cases l with
  | nil => exact absurd rfl h
  | cons a l =>
    cases ha : p a with
    | true => exact .inl (by rw [List.filter_cons_of_pos ha]; simp)
    | false => exact .inr (by rw [List.filter_cons_of_pos (by simp [ha])]; simp)
theorem missing_some {want : Array (String × TypeId)} {got : Array Method} (h : lackL want got ≠ []) : ∃ s, Instr.missingMethod want got = some s := by
  unfold Instr.missingMethod
  unfold lackL at h
  simp only
  generalize (List.map (fun x : String × TypeId => x.1) (List.filter (fun (x : String × TypeId) => !got.any fun m => m.name == x.1 && m.sig == x.2) want.toList)) = l at *
  rw [List.partition_eq_filter_filter]
  dsimp only
  rcases part_ne (fun (x : String) => x.contains (Char.ofNat 46)) h with hu | hx
  · obtain ⟨s, hs⟩ := least_some (l := (l.filter fun (x : String) => x.contains (Char.ofNat 46)).map fun id => (id.splitOn ".").getLastD id) (by simpa using hu)
    cases he : Instr.least (l.filter ((fun x => !x) ∘ fun (x : String) => x.contains (Char.ofNat 46))) with
    | none => exact ⟨s, by rw [hs]; rfl⟩
    | some r => exact ⟨r, rfl⟩
  · obtain ⟨s, hs⟩ := least_some hx
    exact ⟨s, by rw [hs]; rfl⟩
/-- Does a type lack a method of an interface type? -/
def missB (P : Program) (u t : TypeId) : Option Bool := match P.underlying u with
  | some (.interface want) => (P.info? t).map fun i => !(lackL want i.methods).isEmpty
  | _ => none
theorem ta_miss {t u w : TypeId} {z : Value} (v : Value) (hm : missB P u w = some true) (hz : zeroT P u = some z) : taH P t u true (.iface w v) K h = K (.tuple #[z, .bool false]) h := by
  unfold missB at hm
  split at hm
  · rename_i want hu
    cases hi : P.info? w with
    | none => rw [hi] at hm; cases hm
    | some i =>
      rw [hi] at hm
      simp only [Option.map_some, Option.some.injEq, Bool.not_eq_true', List.isEmpty_eq_false_iff] at hm
      obtain ⟨s, hs⟩ := missing_some hm
      unfold taH Instr.typeAssert
      simp only [SemH_bind, SemH_underlying, hu, oH_some, SemH_typeInfo, hi, hs, if_true, SemH_zeroValue, hz]
      rfl
  · cases hm
theorem ta_has {t u w : TypeId} (v : Value) (hm : missB P u w = some false) : taH P t u true (.iface w v) K h = K (.tuple #[.iface w v, .bool true]) h := by
  unfold missB at hm
  split at hm
  · rename_i want hu
    cases hi : P.info? w with
    | none => rw [hi] at hm; cases hm
    | some i =>
      rw [hi] at hm
      simp only [Option.map_some, Option.some.injEq, Bool.not_eq_false', List.isEmpty_iff] at hm
      unfold taH Instr.typeAssert
      simp only [SemH_bind, SemH_underlying, hu, oH_some, SemH_typeInfo, hi, missing_nil hm]
      rfl
  · cases hm
/-- Nothing against an interface value. -/
theorem bin_eql_nil_iface (t : TypeId) (x y : Operand) (u : TypeId) (v : Value) (hi : itT P t = true) : binH P .eql t x y .nilIface (.iface u v) K h = K (.bool false) h := by
  obtain ⟨_, hu⟩ := itT_spec hi
  unfold binH; rw [SemH_bind]
  show SemH P (do pure (.bool (← Op.equal t .nilIface (.iface u v)))) K h = _
  unfold Op.equal Op.maxDepth Op.equalIn
  simp only [SemH_bind, SemH_underlying, hu, oH_some]
  rfl

/-! bytes as a string -/
def strOf (l : List Nat) : ByteArray := ⟨(l.map UInt8.ofNat).toArray⟩
theorem strOf_inj {l m : List Nat} (hl : ∀ x ∈ l, x < 256) (hm : ∀ x ∈ m, x < 256) (e : strOf l = strOf m) : l = m := by
  have e' : (l.map UInt8.ofNat) = (m.map UInt8.ofNat) := by
    have := congrArg (fun b : ByteArray => b.data.toList) e
    simpa [strOf] using this
  have : (l.map UInt8.ofNat).map UInt8.toNat = (m.map UInt8.ofNat).map UInt8.toNat := by rw [e']
  have key : ∀ l : List Nat, (∀ x ∈ l, x < 256) → (l.map UInt8.ofNat).map UInt8.toNat = l := by
    intro l hl
    rw [List.map_map]
    conv => rhs; rw [← List.map_id l]
    apply List.map_congr_left
    intro x hx
    simp [UInt8.toNat_ofNat, Nat.mod_eq_of_lt (hl x hx)]
  rw [key l hl, key m hm] at this
  exact this

theorem SemH_pushBytes (f : Value → ByteArray → Sem (ForInStep ByteArray)) (hf : ∀ (x : Nat) s, f (u8 x) s = pure (ForInStep.yield (s.push (UInt8.ofNat x)))) (Q : ByteArray → Heap → Prop) (h : Heap) : ∀ (l : List Nat) (s : ByteArray),
    SemH P (forIn (l.map u8) s f) Q h = Q (s ++ strOf l) h
  | [], s => by
    simp only [List.map_nil, List.forIn_nil, SemH_pure]
    congr 1
    apply ByteArray.ext
    simp [strOf]
  | x :: l, s => by
    rw [List.map_cons, List.forIn_cons, SemH_bind, hf, SemH_pure]
    refine (SemH_pushBytes f hf Q h l _).trans ?_
    congr 1
    apply ByteArray.ext
    apply Array.ext'
    simp [strOf, ByteArray.push]

theorem cv_bytes (s t : TypeId) {e : TypeId} (ht : stB P t = true) (hs : eltT P s = some e) (he : intT P e = some .u8) {v : Value} {l : List Nat} (hv : Bs h v l) :
    cvH P s t v K h = K (.string (strOf l)) h := by
  have hut := stB_spec ht
  unfold eltT at hs
  obtain ⟨⟨⟨a, cap, rfl, h1, h2, h3⟩, hl⟩, hx⟩ := hv
  have hue : P.underlying e = some (.int .u8) := by
    unfold intT at he
    split at he
    · rename_i k hk; cases he; exact hk
    · cases he
  cases hus : P.underlying s with
  | none => rw [hus] at hs; cases hs
  | some dd =>
    rw [hus] at hs
    cases dd <;> first | (cases hs; done) | skip
    rename_i e'
    dsimp only at hs
    obtain rfl : e' = e := by simpa using hs
    unfold cvH convert
    simp only [SemH_bind, SemH_underlying, hus, hut, oH_some]
    cases a with
    | none =>
      obtain rfl := h2 rfl
      have : l = [] := by
        have : l.length = 0 := by omega
        simpa using this
      subst this
      simp only [SemH_bind, SemH_underlying, hue, oH_some]
      rfl
    | some a =>
      have hr := h3.read (k := 0) (m := l.length) (by simp)
      have h0 : a.add 0 = a := by simp [Addr.add]
      rw [h0] at hr
      simp only [SemH_bind, SemH_underlying, hue, oH_some]
      show SemH P (Conv.bytesToString (.slice (some a) l.length cap)) K h = _
      unfold Conv.bytesToString
      dsimp only
      rw [SemH_bind, SemH_loadCells, hr, oH_some]
      simp only [List.drop_zero, List.take_of_length_le (show (l.map u8).length ≤ l.length from by simp)]
      rw [SemH_bind, ← Array.forIn_toList, List.toList_toArray]
      rw [SemH_pushBytes (P := P) _ (fun x s => rfl), SemH_pure]
      have : ByteArray.empty ++ strOf l = strOf l := by
        apply ByteArray.ext
        simp [strOf]
      rw [this]
end
theorem cells_int (k : IntKind) (n : Int) : (Value.int k n).cells = #[.int k n] := rfl
theorem cells_bool (b : Bool) : (Value.bool b).cells = #[.bool b] := rfl
theorem cells_agg (c : Array Value) : (Value.agg c).cells = c := rfl
theorem cells_pointer (a : Option Addr) : (Value.pointer a).cells = #[.pointer a] := rfl
theorem cells_slice (a : Option Addr) (n m : Nat) : (Value.slice a n m).cells = #[.slice a n m] := rfl
theorem cells_string (s : ByteArray) : (Value.string s).cells = #[.string s] := rfl
theorem cells_iface (t : TypeId) (v : Value) : (Value.iface t v).cells = #[.iface t v] := rfl
theorem cells_nil : Value.nilIface.cells = #[.nilIface] := rfl
theorem cells_map (m : Option Nat) : (Value.map m).cells = #[.map m] := rfl
theorem cells_nilFunc : Value.nilFunc.cells = #[.nilFunc] := rfl
attribute [go_sem] cells_int cells_bool cells_agg cells_pointer cells_slice cells_string cells_iface cells_nil cells_map cells_nilFunc true_or or_true
theorem iteG_none (b : Bool) (A B : Later) : @iteG none b A B = B.p := rfl
theorem boolV_undef : boolV undef = none := rfl
attribute [go_sem ↓] iteG_none
attribute [go_sem] boolV_undef
/-- A late read of a block that stays as it is. -/
theorem rQ_cls {α : Type} {b : Nat} {B : Obj} (g : Obj → Option α) (G : α → (Value → Heap → Prop) → Heap → Prop) (h : Heap) (N : Value → Prop) (hb : h[b]? = some B) :
    rQ (fun K x => oH ((x[b]?).bind g) fun v => G v K x) (fun x => x[b]? = some B) h N = oH (g B) fun v => rQ (fun K x => G v K x) (fun x => x[b]? = some B) h N := by
  have := rQ_oH α (fun x => (x[b]?).bind g) G (fun x => x[b]? = some B) h N (fun x hx => by rw [hx, hb])
  rw [this, hb]
  rfl
attribute [go_sem ↓] rQ_cls
attribute [go_sem ↓] bin_eql_nil_iface bin_eql_slice_nil bin_neq_slice_nil bin_eql_string bin_neq_string bin_eql_bool bin_neq_bool bin_eql_iface_ne bin_eql_iface_int op_max op_min mx_int mn_int op_invoke op_callx op_ta
attribute [go_sem] objCell_cells map_add_zero
attribute [go_sem] Option.bind_some Option.map_some Option.getD_some List.getElem?_cons_zero List.getElem?_cons_succ List.getElem?_nil Bool.false_eq_true List.map_toArray List.map_cons List.map_nil List.toList_toArray List.length_cons List.length_nil List.drop_zero List.drop_succ_cons List.take_succ_cons List.take_zero List.set_cons_zero List.set_cons_succ decide_true decide_false Bool.not_true Bool.not_false ne_eq not_true_eq_false not_false_eq_true true_and and_true List.all_cons List.all_nil Bool.and_true Bool.and_self Nat.le_refl Nat.min_eq_left Int.natCast_nonneg Option.isSome_some and_self Int.toNat_zero Int.toNat_one Nat.zero_add Nat.zero_mul Nat.one_mul Nat.add_zero List.size_toArray Int.cast_ofNat_Int decide_eq_true_eq if_true if_false List.getElem?_toArray w_i64 w_u64 w_u32 w_u16 w_u8 Option.map_none Option.bind_none
end Go.H
