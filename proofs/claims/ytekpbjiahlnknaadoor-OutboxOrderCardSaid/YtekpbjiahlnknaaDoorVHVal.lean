/- What each operation asks of its operands' values, in equations by which a walk is reckoned. Its conditions: none. -/
import Derived.Test.YtekpbjiahlnknaaDoorVHOps
namespace Go.H
section
variable {P : Program} {K : Value → Heap → Prop} {h : Heap} {ρ : Operand → Value} {d : Option Tmp} {ty : TypeId} {ps : String} {af : Array Edge} {gd : Option (Nat × Bool)}

def itT (P : Program) (t : TypeId) : Bool := match P.underlying t with | some (.interface _) => true | _ => false
def ptT (P : Program) (t : TypeId) : Bool := match P.underlying t with | some (.pointer _) => true | _ => false
def slB (P : Program) (t : TypeId) : Bool := match P.underlying t with | some (.slice _) => true | _ => false
def stB (P : Program) (t : TypeId) : Bool := match P.underlying t with | some .string => true | _ => false
theorem itT_spec {t : TypeId} (h : itT P t = true) : ∃ ms, P.underlying t = some (.interface ms) := by
  unfold itT at h
  split at h
  · exact ⟨_, by assumption⟩
  · cases h
theorem ptT_spec {t : TypeId} (h : ptT P t = true) : ∃ e, P.underlying t = some (.pointer e) := by
  unfold ptT at h
  split at h
  · exact ⟨_, by assumption⟩
  · cases h
theorem slB_spec {t : TypeId} (h : slB P t = true) : ∃ e, P.underlying t = some (.slice e) := by
  unfold slB at h
  split at h
  · exact ⟨_, by assumption⟩
  · cases h
theorem stB_spec {t : TypeId} (h : stB P t = true) : P.underlying t = some .string := by
  unfold stB at h
  split at h
  · assumption
  · cases h

/-! a nil check -/
def nlH (P : Program) (v : Value) (K : Value → Heap → Prop) (h : Heap) : Prop := opH P (fun _ => v) ⟨none, .nilCheck (.tmp 0), 0, "", #[], none⟩ K h
theorem op_nil (x : Operand) : opH P ρ ⟨d, .nilCheck x, ty, ps, af, gd⟩ K h = nlH P (ρ x) K h := rfl
theorem nlH_ptr (a : Addr) : nlH P (.pointer (some a)) K h = K (.pointer (some a)) h := rfl

/-! operators -/
def binH (P : Program) (op : BinOp) (t : TypeId) (x y : Operand) (v w : Value) (K : Value → Heap → Prop) (h : Heap) : Prop := SemH P (do eqGuard op t x y v w; binOp op t v w) K h
theorem op_bin (op : BinOp) (t : TypeId) (x y : Operand) (u : TypeId) : opH P ρ ⟨d, .binOp op t x y u, ty, ps, af, gd⟩ K h = binH P op t x y (ρ x) (ρ y) K h := by
  unfold opH binH
  show SemH P (do pure (Next.value (← (do eqGuard op t x y (ρ x) (ρ y); binOp op t (ρ x) (ρ y))))) (nextH P K) h = _
  rw [opV]

section ints
variable (t : TypeId) (x y : Operand) (k : IntKind) (a b : Int)
theorem bin_add : binH P .add t x y (.int k a) (.int k b) K h = K (.int k (k.wrap (a + b))) h := by
  unfold binH; rw [SemH_bind]; show SemH P (if k ≠ k then _ else _) K h = _; rw [if_neg (by simp)]; rfl
theorem bin_sub : binH P .sub t x y (.int k a) (.int k b) K h = K (.int k (k.wrap (a - b))) h := by
  unfold binH; rw [SemH_bind]; show SemH P (if k ≠ k then _ else _) K h = _; rw [if_neg (by simp)]; rfl
theorem bin_mul : binH P .mul t x y (.int k a) (.int k b) K h = K (.int k (k.wrap (a * b))) h := by
  unfold binH; rw [SemH_bind]; show SemH P (if k ≠ k then _ else _) K h = _; rw [if_neg (by simp)]; rfl
theorem bin_quo : binH P .quo t x y (.int k a) (.int k b) K h = (b ≠ 0 ∧ K (.int k (k.wrap (a.tdiv b))) h) := by
  unfold binH; rw [SemH_bind]; show SemH P (if k ≠ k then _ else Op.intDiv .quo k a b) K h = _; rw [if_neg (by simp)]
  unfold Op.intDiv
  by_cases hb : b = 0
  · rw [if_pos hb]; simp only [hb, ne_eq, not_true_eq_false, false_and]; rfl
  · rw [if_neg hb]; simp only [ne_eq, hb, not_false_eq_true, true_and]; rfl
theorem bin_rem : binH P .rem t x y (.int k a) (.int k b) K h = (b ≠ 0 ∧ K (.int k (a.tmod b)) h) := by
  unfold binH; rw [SemH_bind]; show SemH P (if k ≠ k then _ else Op.intDiv .rem k a b) K h = _; rw [if_neg (by simp)]
  unfold Op.intDiv
  by_cases hb : b = 0
  · rw [if_pos hb]; simp only [hb, ne_eq, not_true_eq_false, false_and]; rfl
  · rw [if_neg hb]; simp only [ne_eq, hb, not_false_eq_true, true_and]; rfl
theorem bin_lss : binH P .lss t x y (.int k a) (.int k b) K h = K (.bool (decide (a < b))) h := by
  unfold binH; rw [SemH_bind]; show SemH P (if k ≠ k then _ else _) K h = _; rw [if_neg (by simp)]; rfl
theorem bin_leq : binH P .leq t x y (.int k a) (.int k b) K h = K (.bool (decide (a ≤ b))) h := by
  unfold binH; rw [SemH_bind]; show SemH P (if k ≠ k then _ else _) K h = _; rw [if_neg (by simp)]; rfl
theorem bin_gtr : binH P .gtr t x y (.int k a) (.int k b) K h = K (.bool (decide (a > b))) h := by
  unfold binH; rw [SemH_bind]; show SemH P (if k ≠ k then _ else _) K h = _; rw [if_neg (by simp)]; rfl
theorem bin_geq : binH P .geq t x y (.int k a) (.int k b) K h = K (.bool (decide (a ≥ b))) h := by
  unfold binH; rw [SemH_bind]; show SemH P (if k ≠ k then _ else _) K h = _; rw [if_neg (by simp)]; rfl
theorem bin_eql : binH P .eql t x y (.int k a) (.int k b) K h = K (.bool (decide (a = b))) h := by
  unfold binH; rw [SemH_bind]; show SemH P (if k ≠ k then _ else _) K h = _; rw [if_neg (by simp)]
  show K (.bool (a == b)) h = _
  rw [show (a == b) = decide (a = b) from by by_cases e : a = b <;> simp [e]]
theorem bin_neq : binH P .neq t x y (.int k a) (.int k b) K h = K (.bool (decide (a ≠ b))) h := by
  unfold binH; rw [SemH_bind]; show SemH P (if k ≠ k then _ else _) K h = _; rw [if_neg (by simp)]
  show K (.bool (a != b)) h = _
  rw [show (a != b) = decide (a ≠ b) from by by_cases e : a = b <;> simp [e]]
theorem bin_and : binH P .and t x y (.int k a) (.int k b) K h = K (.int k (k.wrap (BitVec.ofInt k.bits a &&& BitVec.ofInt k.bits b).toNat)) h := by
  unfold binH; rw [SemH_bind]; show SemH P (if k ≠ k then _ else _) K h = _; rw [if_neg (by simp)]; rfl
theorem bin_or : binH P .or t x y (.int k a) (.int k b) K h = K (.int k (k.wrap (BitVec.ofInt k.bits a ||| BitVec.ofInt k.bits b).toNat)) h := by
  unfold binH; rw [SemH_bind]; show SemH P (if k ≠ k then _ else _) K h = _; rw [if_neg (by simp)]; rfl
theorem bin_xor : binH P .xor t x y (.int k a) (.int k b) K h = K (.int k (k.wrap (BitVec.ofInt k.bits a ^^^ BitVec.ofInt k.bits b).toNat)) h := by
  unfold binH; rw [SemH_bind]; show SemH P (if k ≠ k then _ else _) K h = _; rw [if_neg (by simp)]; rfl
theorem bin_shl (j : IntKind) : binH P .shl t x y (.int k a) (.int j b) K h = (0 ≤ b ∧ K (.int k (k.wrap (a * 2 ^ (min b.toNat k.bits)))) h) := by
  unfold binH; rw [SemH_bind]
  show SemH P (if b < 0 then _ else _) K h = _
  by_cases hb : b < 0
  · rw [if_pos hb]; rw [show (0 ≤ b) = False from by simp; omega]; simp only [false_and]; rfl
  · rw [if_neg hb]; rw [show (0 ≤ b) = True from by simp; omega]; simp only [true_and]; rfl
theorem bin_shr (j : IntKind) : binH P .shr t x y (.int k a) (.int j b) K h = (0 ≤ b ∧ K (.int k (a.fdiv (2 ^ (min b.toNat k.bits)))) h) := by
  unfold binH; rw [SemH_bind]
  show SemH P (if b < 0 then _ else _) K h = _
  by_cases hb : b < 0
  · rw [if_pos hb]; rw [show (0 ≤ b) = False from by simp; omega]; simp only [false_and]; rfl
  · rw [if_neg hb]; rw [show (0 ≤ b) = True from by simp; omega]; simp only [true_and]; rfl
end ints

/-- An error, or another interface value, against nil. -/
theorem bin_eql_iface_nil (t : TypeId) (x : Operand) (u : TypeId) (v : Value) (hi : itT P t = true) :
    binH P .eql t x (.const .nilIface) (.iface u v) .nilIface K h = K (.bool false) h := by
  obtain ⟨_, hu⟩ := itT_spec hi
  unfold binH; rw [SemH_bind]
  show SemH P (do pure (.bool (← Op.equal t (.iface u v) .nilIface))) K h = _
  unfold Op.equal Op.maxDepth Op.equalIn
  simp only [SemH_bind, SemH_underlying, hu, oH_some]
  rfl
theorem bin_neq_iface_nil (t : TypeId) (x : Operand) (u : TypeId) (v : Value) (hi : itT P t = true) :
    binH P .neq t x (.const .nilIface) (.iface u v) .nilIface K h = K (.bool true) h := by
  obtain ⟨_, hu⟩ := itT_spec hi
  unfold binH; rw [SemH_bind]
  show SemH P (do pure (.bool (!(← Op.equal t (.iface u v) .nilIface)))) K h = _
  unfold Op.equal Op.maxDepth Op.equalIn
  simp only [SemH_bind, SemH_underlying, hu, oH_some]
  rfl
theorem bin_eql_nil_nil (t : TypeId) (x : Operand) (hi : itT P t = true) :
    binH P .eql t x (.const .nilIface) .nilIface .nilIface K h = K (.bool true) h := by
  obtain ⟨_, hu⟩ := itT_spec hi
  unfold binH; rw [SemH_bind]
  unfold eqGuard
  show SemH P (if (!(BinOp.eql matches BinOp.eql | BinOp.neq)) = true then _ else _) _ h = _
  rw [if_neg (by simp), if_pos (by cases x <;> simp)]
  show SemH P (do pure (.bool (← Op.equal t .nilIface .nilIface))) K h = _
  unfold Op.equal Op.maxDepth Op.equalIn
  simp only [SemH_bind, SemH_underlying, hu, oH_some]
  rfl
theorem bin_neq_nil_nil (t : TypeId) (x : Operand) (hi : itT P t = true) :
    binH P .neq t x (.const .nilIface) .nilIface .nilIface K h = K (.bool false) h := by
  obtain ⟨_, hu⟩ := itT_spec hi
  unfold binH; rw [SemH_bind]
  unfold eqGuard
  show SemH P (if (!(BinOp.neq matches BinOp.eql | BinOp.neq)) = true then _ else _) _ h = _
  rw [if_neg (by simp), if_pos (by cases x <;> simp)]
  show SemH P (do pure (.bool (!(← Op.equal t .nilIface .nilIface)))) K h = _
  unfold Op.equal Op.maxDepth Op.equalIn
  simp only [SemH_bind, SemH_underlying, hu, oH_some]
  rfl
/-- A pointer against nil. -/
theorem bin_eql_ptr_nil (t : TypeId) (x y : Operand) (a : Addr) (hi : ptT P t = true) :
    binH P .eql t x y (.pointer (some a)) (.pointer none) K h = K (.bool false) h := by
  obtain ⟨_, hu⟩ := ptT_spec hi
  unfold binH; rw [SemH_bind]
  show SemH P (do pure (.bool (← Op.equal t (.pointer (some a)) (.pointer none)))) K h = _
  unfold Op.equal Op.maxDepth Op.equalIn
  simp only [SemH_bind, SemH_underlying, hu, oH_some]
  rfl
theorem bin_neq_ptr_nil (t : TypeId) (x y : Operand) (a : Addr) (hi : ptT P t = true) :
    binH P .neq t x y (.pointer (some a)) (.pointer none) K h = K (.bool true) h := by
  obtain ⟨_, hu⟩ := ptT_spec hi
  unfold binH; rw [SemH_bind]
  show SemH P (do pure (.bool (!(← Op.equal t (.pointer (some a)) (.pointer none))))) K h = _
  unfold Op.equal Op.maxDepth Op.equalIn
  simp only [SemH_bind, SemH_underlying, hu, oH_some]
  rfl
theorem bin_eql_nilptr (t : TypeId) (x y : Operand) (a : Option Addr) (hi : ptT P t = true) :
    binH P .eql t x y (.pointer none) (.pointer a) K h = K (.bool a.isNone) h := by
  obtain ⟨_, hu⟩ := ptT_spec hi
  unfold binH; rw [SemH_bind]
  show SemH P (do pure (.bool (← Op.equal t (.pointer none) (.pointer a)))) K h = _
  unfold Op.equal Op.maxDepth Op.equalIn
  simp only [SemH_bind, SemH_underlying, hu, oH_some]
  rfl
theorem bin_neq_nilptr (t : TypeId) (x y : Operand) (a : Option Addr) (hi : ptT P t = true) :
    binH P .neq t x y (.pointer none) (.pointer a) K h = K (.bool (!a.isNone)) h := by
  obtain ⟨_, hu⟩ := ptT_spec hi
  unfold binH; rw [SemH_bind]
  show SemH P (do pure (.bool (!(← Op.equal t (.pointer none) (.pointer a))))) K h = _
  unfold Op.equal Op.maxDepth Op.equalIn
  simp only [SemH_bind, SemH_underlying, hu, oH_some]
  rfl

/-! one operand -/
def unH (P : Program) (op : UnOp) (v : Value) (K : Value → Heap → Prop) (h : Heap) : Prop := SemH P (Op.unary op v) K h
theorem op_un (op : UnOp) (t : TypeId) (x : Operand) : opH P ρ ⟨d, .unOp op t x, ty, ps, af, gd⟩ K h = unH P op (ρ x) K h := opV _
theorem un_not (b : Bool) : unH P .not (.bool b) K h = K (.bool (!b)) h := rfl
theorem un_neg (k : IntKind) (a : Int) : unH P .neg (.int k a) K h = K (.int k (k.wrap (0 - a))) h := rfl
theorem un_xor (k : IntKind) (a : Int) : unH P .xor (.int k a) K h = K (.int k (k.wrap (BitVec.ofInt k.bits (if k.signed then -1 else k.max) ^^^ BitVec.ofInt k.bits a).toNat)) h := rfl

/-! conversions between integers -/
def intT (P : Program) (t : TypeId) : Option IntKind := match P.underlying t with | some (.int k) => some k | _ => none
def cvH (P : Program) (s t : TypeId) (v : Value) (K : Value → Heap → Prop) (h : Heap) : Prop := SemH P (convert s t v) K h
theorem op_cv (s t : TypeId) (x : Operand) : opH P ρ ⟨d, .convert s t x, ty, ps, af, gd⟩ K h = cvH P s t (ρ x) K h := opV _
theorem cv_int (s t : TypeId) (j : IntKind) (a : Int) (hs : (P.underlying s).isSome = true) (ht : (intT P t).isSome = true) : cvH P s t (.int j a) K h = oH (intT P t) fun k => K (.int k (k.wrap a)) h := by
  obtain ⟨ds, hs⟩ := Option.isSome_iff_exists.1 hs
  obtain ⟨k, hk⟩ := Option.isSome_iff_exists.1 ht
  rw [hk]
  unfold intT at hk
  split at hk
  · rename_i k' hk'
    cases hk
    unfold cvH convert
    simp only [SemH_bind, SemH_underlying, hs, hk', oH_some]
    rfl
  · cases hk

/-! addresses of elements -/
def slT (P : Program) (t : TypeId) : Option Nat := match P.underlying t with | some (.slice e) => cellsT P e | _ => none
def arT (P : Program) (t : TypeId) : Option (Nat × TypeId × Nat) := match P.underlying t with | some (.array m e) => (cellsT P e).map fun n => (m, e, n) | _ => none
def ixH (P : Program) (t : TypeId) (v w : Value) (K : Value → Heap → Prop) (h : Heap) : Prop := SemH P (Instr.indexAt t v w) K h
theorem op_ix (t : TypeId) (x y : Operand) : opH P ρ ⟨d, .indexAddr t x y, ty, ps, af, gd⟩ K h = ixH P t (ρ x) (ρ y) K h := opV _
theorem ix_slice (t : TypeId) (a : Addr) (len cap : Nat) (k : IntKind) (i : Int) (hs : (slT P t).isSome = true) :
    ixH P t (.slice (some a) len cap) (.int k i) K h = oH (slT P t) fun n => 0 ≤ i ∧ i < len ∧ K (.pointer (some (a.add (i.toNat * n)))) h := by
  obtain ⟨n, hn⟩ := Option.isSome_iff_exists.1 hs
  rw [hn, oH_some]
  unfold slT at hn
  cases hu : P.underlying t with
  | none => rw [hu] at hn; simp at hn
  | some dd =>
    rw [hu] at hn
    cases dd <;> first | (simp at hn; done) | skip
    rename_i e
    dsimp only at hn
    unfold ixH Instr.indexAt asIntOf
    simp only [SemH_bind, SemH_pure, SemH_underlying, hu, oH_some]
    by_cases h0 : 0 ≤ i ∧ i < (len : Int)
    · rw [if_pos h0, SemH_sizeOf_bind, hn]
      simp only [h0.1, h0.2, true_and]
      rfl
    · rw [if_neg h0]
      refine propext ⟨fun hh => ?_, fun hh => (h0 ⟨hh.1, hh.2.1⟩).elim⟩
      rw [SemH_ite] at hh
      split at hh
      · exact hh.elim
      · exact (SemH_boundsPanic _ _ _ _ _ _ hh).elim
theorem ix_array (t : TypeId) (a : Addr) (k : IntKind) (i : Int) (hs : (arT P t).isSome = true) :
    ixH P t (.pointer (some a)) (.int k i) K h = oH (arT P t) fun x => 0 ≤ i ∧ i < x.1 ∧ K (.pointer (some (a.add (i.toNat * x.2.2)))) h := by
  obtain ⟨⟨m, e, n⟩, hn⟩ := Option.isSome_iff_exists.1 hs
  rw [hn, oH_some]
  dsimp only
  unfold arT at hn
  cases hu : P.underlying t with
  | none => rw [hu] at hn; simp at hn
  | some dd =>
    rw [hu] at hn
    cases dd <;> first | (simp at hn; done) | skip
    rename_i m' e'
    simp only [Option.map_eq_some_iff, Prod.mk.injEq] at hn
    obtain ⟨n', hc, rfl, rfl, rfl⟩ := hn
    unfold ixH Instr.indexAt asIntOf
    simp only [SemH_bind, SemH_pure, SemH_underlying, hu, oH_some]
    rw [SemH_sureAddr, pH_some]
    by_cases h0 : 0 ≤ i ∧ i < (m' : Int)
    · rw [if_pos h0, SemH_sizeOf_bind, hc]
      simp only [h0.1, h0.2, true_and]
      rfl
    · rw [if_neg h0]
      refine propext ⟨fun hh => ?_, fun hh => (h0 ⟨hh.1, hh.2.1⟩).elim⟩
      rw [SemH_ite] at hh
      split at hh
      · exact hh.elim
      · exact (SemH_boundsPanic _ _ _ _ _ _ hh).elim

def elH (P : Program) (t : TypeId) (v w : Value) (K : Value → Heap → Prop) (h : Heap) : Prop := SemH P (Instr.index t v w) K h
theorem op_el (t : TypeId) (x y : Operand) : opH P ρ ⟨d, .index t x y, ty, ps, af, gd⟩ K h = elH P t (ρ x) (ρ y) K h := opV _
theorem el_array (t : TypeId) (l : List Value) (k : IntKind) (i : Int) (hs : (arT P t).isSome = true) :
    elH P t (.agg l.toArray) (.int k i) K h = oH (arT P t) fun x => 0 ≤ i ∧ i < x.1 ∧ oH (partV P x.2.1 l (i.toNat * x.2.2)) fun v => K v h := by
  obtain ⟨⟨m, e, n⟩, hn⟩ := Option.isSome_iff_exists.1 hs
  rw [hn, oH_some]
  dsimp only
  unfold arT at hn
  cases hu : P.underlying t with
  | none => rw [hu] at hn; simp at hn
  | some dd =>
    rw [hu] at hn
    cases dd <;> first | (simp at hn; done) | skip
    rename_i m' e'
    simp only [Option.map_eq_some_iff, Prod.mk.injEq] at hn
    obtain ⟨n', hc, rfl, rfl, rfl⟩ := hn
    unfold elH Instr.index asIntOf
    simp only [SemH_bind, SemH_pure, SemH_underlying, hu, oH_some]
    by_cases h0 : 0 ≤ i ∧ i < (m' : Int)
    · rw [if_pos h0, SemH_sizeOf_bind, hc]
      simp only [h0.1, h0.2, true_and]
      exact SemH_part _ _ _ _
    · rw [if_neg h0]
      exact propext ⟨fun hh => (SemH_boundsPanic _ _ _ _ _ _ hh).elim, fun hh => (h0 ⟨hh.1, hh.2.1⟩).elim⟩

/-! fields -/
def faH (P : Program) (t : TypeId) (i : Nat) (v : Value) (K : Value → Heap → Prop) (h : Heap) : Prop := SemH P (Instr.fieldAt t v i) K h
theorem op_fa (t : TypeId) (x : Operand) (i : Nat) : opH P ρ ⟨d, .fieldAddr t x i, ty, ps, af, gd⟩ K h = faH P t i (ρ x) K h := opV _
def fldB (P : Program) (t : TypeId) (i : Nat) : Bool := match fieldT P t i with | some (_, _, false) => true | _ => false
theorem fa_ptr (t : TypeId) (i : Nat) (a : Addr) (hb : fldB P t i = true) : faH P t i (.pointer (some a)) K h = oH (fieldT P t i) fun x => K (.pointer (some (a.add x.1))) h := by
  unfold fldB at hb
  split at hb
  · rename_i o u hf
    rw [hf]
    unfold faH
    rw [SemH_fieldAt t _ i hf]
    rfl
  · cases hb
def fdH (P : Program) (t : TypeId) (i : Nat) (v : Value) (K : Value → Heap → Prop) (h : Heap) : Prop := opH P (fun _ => v) ⟨none, .field t (.tmp 0) i, 0, "", #[], none⟩ K h
theorem op_fd (t : TypeId) (x : Operand) (i : Nat) : opH P ρ ⟨d, .field t x i, ty, ps, af, gd⟩ K h = fdH P t i (ρ x) K h := rfl
theorem fd_agg (t : TypeId) (i : Nat) (l : List Value) (hs : (fieldT P t i).isSome = true) : fdH P t i (.agg l.toArray) K h = oH (fieldT P t i) fun x => oH (partV P x.2.1 l x.1) fun v => K v h := by
  obtain ⟨⟨o, u, z⟩, hf⟩ := Option.isSome_iff_exists.1 hs
  rw [hf]
  unfold fdH
  rw [op_field t _ i hf]
  rfl

/-! components -/
def xtH (P : Program) (v : Value) (i : Nat) (K : Value → Heap → Prop) (h : Heap) : Prop := SemH P (Instr.extract v i) K h
theorem op_xt (x : Operand) (i : Nat) : opH P ρ ⟨d, .extract x i, ty, ps, af, gd⟩ K h = xtH P (ρ x) i K h := opV _
theorem xt_tuple (l : List Value) (i : Nat) : xtH P (.tuple l.toArray) i K h = oH (l[i]?) fun v => K v h := by
  unfold xtH Instr.extract
  simp only [List.getElem?_toArray]
  cases l[i]? <;> rfl

theorem op_mkI (t : TypeId) (x : Operand) (hu : ((P.underlying t).isSome && !itT P t) = true) : opH P ρ ⟨d, .makeInterface t x, ty, ps, af, gd⟩ K h = K (.iface t (ρ x)) h := by
  unfold itT at hu
  unfold opH
  show SemH P (do pure (Next.value (← Instr.makeInterface t (ρ x)))) (nextH P K) h = _
  rw [opV]
  unfold Instr.makeInterface
  rw [SemH_bind, SemH_underlying]
  cases hd : P.underlying t with
  | none => rw [hd] at hu; simp at hu
  | some dd =>
    rw [hd] at hu
    cases dd <;> first | (simp at hu; done) | rfl

/-! built-in functions -/
theorem op_builtin (b : Builtin) (args : Array Operand) (ts : Array TypeId) :
    opH P ρ ⟨d, .call ⟨.builtin b, args, ts⟩, ty, ps, af, gd⟩ K h = SemH P (builtin b ts ty (args.map fun | .const _ => true | _ => false) (args.map ρ)) (nextH P K) h := by
  unfold opH
  show SemH P (do let d ← resolve ρ ⟨.builtin b, args, ts⟩ ty; invoke d.target d.args) (nextH P K) h = _
  rw [SemH_bind]
  rfl

def lnH (P : Program) (t : TypeId) (v : Value) (K : Value → Heap → Prop) (h : Heap) : Prop := SemH P (Builtin.len_ #[t] 0 #[v]) K h
theorem op_len (x : Operand) (t : TypeId) : opH P ρ ⟨d, .call ⟨.builtin .len, #[x], #[t]⟩, ty, ps, af, gd⟩ K h = lnH P t (ρ x) K h := by
  rw [op_builtin, show (#[x] : Array Operand).map ρ = #[ρ x] from by simp]
  exact opV _
theorem ln_slice (t : TypeId) (hi : slB P t = true) (a : Option Addr) (len cap : Nat) : lnH P t (.slice a len cap) K h = K (.int .i64 len) h := by
  obtain ⟨e, hu⟩ := slB_spec hi
  unfold lnH Builtin.len_
  show SemH P (underlying t >>= _) K h = _
  simp only [SemH_bind, SemH_underlying, hu, oH_some]
  rfl
theorem ln_string (t : TypeId) (hi : stB P t = true) (s : ByteArray) : lnH P t (.string s) K h = K (.int .i64 s.size) h := by
  have hu := stB_spec hi
  unfold lnH Builtin.len_
  show SemH P (underlying t >>= _) K h = _
  simp only [SemH_bind, SemH_underlying, hu, oH_some]
  rfl
end

/-! ### What is looked into later: classes, for a walk passes by what stands in their place -/
class Later where
  p : Prop
class Then where
  k : Value → Heap → Prop
def CallsB (P : Program) (f : FuncId) (args : Array Value) (h : Heap) [R : Then] : Prop := CallsH P f args h R.k
theorem op_call' {P : Program} {K : Value → Heap → Prop} {h : Heap} {d : Option Tmp} {ty : TypeId} {ps : String} {af : Array Edge} {gd : Option (Nat × Bool)} (f : FuncId) (args : Array Operand) (ts : Array TypeId) (hf : calleeB P f = true) {e : Env} :
    opH P (evalE e) ⟨d, .call ⟨.value (.func f), args, ts⟩, ty, ps, af, gd⟩ K h = @CallsB P f (args.map (evalE e)) h ⟨K⟩ := op_call f args ts hf
/-! ### The walk's own steps -/
section
variable {P : Program} {ops : Array Oper} {K : Env → Heap → Prop} {e : Env} {h : Heap}
theorem opsH_nil : opsH P ops K [] e h = K e h := rfl
theorem opsH_plain (d : Option Tmp) (op : Op) (ty : TypeId) (ps : String) (af : Array Edge) (rest : List Oper) :
    opsH P ops K (⟨d, op, ty, ps, af, none⟩ :: rest) e h = opH P (evalE e) ⟨d, op, ty, ps, af, none⟩ (fun v h' => opsH P ops K rest (updE e d v) h') h := rfl
theorem opsH_guard (d : Option Tmp) (op : Op) (ty : TypeId) (ps : String) (af : Array Edge) (j : Nat) (b : Bool) (rest : List Oper) :
    opsH P ops K (⟨d, op, ty, ps, af, some (j, b)⟩ :: rest) e h = if yieldE ops e j = some b
      then opH P (evalE e) ⟨d, op, ty, ps, af, some (j, b)⟩ (fun v h' => opsH P ops K rest (updE e d v) h') h
      else opsH P ops K rest (updE e d undef) h := by
  show (if (Region.wanted _ _) = true then _ else _) = _
  simp only [Region.wanted, beq_iff_eq]
/-- What a guard waits for, looked into only when it is known. -/
def iteG (x : Option Bool) (b : Bool) [A : Later] [B : Later] : Prop := if x = some b then A.p else B.p
theorem iteG_tt (A B : Later) : @iteG (some true) true A B = A.p := rfl
theorem iteG_tf (A B : Later) : @iteG (some true) false A B = B.p := rfl
theorem iteG_ft (A B : Later) : @iteG (some false) true A B = B.p := rfl
theorem iteG_ff (A B : Later) : @iteG (some false) false A B = A.p := rfl
def boolV : Value → Option Bool
  | .bool b => some b
  | _ => none
theorem boolV_bool (b : Bool) : boolV (.bool b) = some b := rfl
def oB : Option Tmp → Env → Option Bool
  | some t, e => boolV (e t)
  | none, _ => none
theorem oB_some (t : Tmp) (e : Env) : oB (some t) e = boolV (e t) := rfl
theorem yield_eq (l : List Oper) (e : Env) (j : Nat) : yieldE l.toArray e j = oB ((l[j]?).bind fun o => o.dst) e := by
  unfold yieldE
  rw [List.getElem?_toArray]
  cases (l[j]?).bind fun o => o.dst with
  | none => rfl
  | some t =>
    show (match e t with | .bool b => some b | _ => none) = boolV (e t)
    unfold boolV
    cases e t <;> rfl
theorem opsH_guard' (d : Option Tmp) (op : Op) (ty : TypeId) (ps : String) (af : Array Edge) (j : Nat) (b : Bool) (rest : List Oper) :
    opsH P ops K (⟨d, op, ty, ps, af, some (j, b)⟩ :: rest) e h = @iteG (yieldE ops e j) b
      ⟨opH P (evalE e) ⟨d, op, ty, ps, af, some (j, b)⟩ (fun v h' => opsH P ops K rest (updE e d v) h') h⟩
      ⟨opsH P ops K rest (updE e d undef) h⟩ := opsH_guard d op ty ps af j b rest
theorem updE_some (d : Tmp) (v : Value) (t : Nat) : updE e (some d) v t = if t = d then v else e t := rfl
theorem updE_none (v : Value) : updE e none v = e := rfl
theorem evalE_tmp (t : Tmp) : evalE e (.tmp t) = e t := rfl
theorem evalE_const (v : Value) : evalE e (.const v) = v := rfl
theorem evalE_func (f : FuncId) : evalE e (.func f) = .func (.func f) #[] #[] := rfl
theorem evalE_global (g : Nat) : evalE e (.global g) = .pointer (some ⟨g, 0, none⟩) := rfl
end
section
variable {P : Program} {Q : Exit → Env → Heap → Prop} {e : Env} {h : Heap}
theorem C_skip : CodeH P .skip Q e h = Q .normal e h := rfl
theorem C_region (id : Nat) (l : List Oper) : CodeH P (.region id l.toArray false) Q e h = opsH P l.toArray (Q .normal) l e h := rfl
theorem C_draw (id : Nat) (ops : Array Oper) : CodeH P (.region id ops true) Q e h = drawH P ops (Q .normal) e h := rfl
theorem C_seq (a b : Code) : CodeH P (.seq a b) Q e h = CodeH P a (thenH (CodeH P b Q) Q) e h := rfl
def condH (v : Value) [A : Later] [B : Later] : Prop := match v with | .bool t => if t = true then A.p else B.p | _ => False
theorem C_cond (c : Operand) (a b : Code) : CodeH P (.cond c a b) Q e h = @condH (evalE e c) ⟨CodeH P a Q e h⟩ ⟨CodeH P b Q e h⟩ := by
  show (match evalE e c with | .bool t => _ | _ => _) = _
  unfold condH
  cases evalE e c <;> rfl
theorem condH_true (A B : Later) : @condH (.bool true) A B = A.p := rfl
theorem condH_false (A B : Later) : @condH (.bool false) A B = B.p := rfl
theorem C_block (id : Nat) (c : Code) : CodeH P (.block id c) Q e h = CodeH P c (blockH id Q) e h := rfl
theorem C_loop (c : Code) : CodeH P (.loop c) Q e h = loopH (CodeH P c) Q e h := rfl
theorem C_exit (id : Nat) : CodeH P (.exit id) Q e h = Q (.exit id) e h := rfl
theorem C_ret : CodeH P .ret Q e h = Q .ret e h := rfl
theorem then_normal (K : Env → Heap → Prop) : thenH K Q .normal e h = K e h := rfl
theorem then_normal' (K : Env → Heap → Prop) : thenH K Q .normal = K := rfl
theorem then_exit (K : Env → Heap → Prop) (i : Nat) : thenH K Q (.exit i) e h = Q (.exit i) e h := rfl
theorem then_ret (K : Env → Heap → Prop) : thenH K Q .ret e h = Q .ret e h := rfl
theorem block_normal (id : Nat) : blockH id Q .normal e h = Q .normal e h := rfl
theorem block_normal' (id : Nat) : blockH id Q .normal = Q .normal := rfl
theorem block_ret (id : Nat) : blockH id Q .ret e h = Q .ret e h := rfl
theorem block_exit (id i : Nat) : blockH id Q (.exit i) e h = if i = id then Q .normal e h else Q (.exit i) e h := rfl
theorem post_ret (rs : List ResultVar) (R : Value → Heap → Prop) : postH P rs R .ret e h = resH P e h rs (fun vs => R (tupleOf vs) h) := rfl
theorem post_normal (rs : List ResultVar) (R : Value → Heap → Prop) : postH P rs R .normal e h = resH P e h rs (fun vs => R (tupleOf vs) h) := rfl
theorem res_nil (K : List Value → Prop) : resH P e h [] K = K [] := rfl
theorem res_tmp (t : Tmp) (l : List ResultVar) (K : List Value → Prop) : resH P e h (.tmp t :: l) K = resH P e h l (fun vs => K (e t :: vs)) := rfl
theorem argE_cons (i : Nat) (v : Value) (l : List Value) (t : Nat) : argE i (v :: l) t = if t = i then v else argE (i + 1) l t := rfl
theorem argE_nil (i t : Nat) : argE i [] t = undef := rfl
theorem tuple1 (v : Value) : tupleOf [v] = v := rfl
theorem tuple2 (v u : Value) : tupleOf [v, u] = .tuple #[v, u] := rfl
theorem tuple3 (v u x : Value) : tupleOf [v, u, x] = .tuple #[v, u, x] := rfl
theorem tuple0 : tupleOf [] = .tuple #[] := rfl
end
attribute [go_sem] oH_some oH_none pH_some pH_none pickH_bool aH_agg iH_int op_move op_assign op_pick op_alloc op_box op_load op_store ldH stH op_nil nlH_ptr op_bin bin_add bin_sub bin_mul bin_quo bin_rem bin_lss bin_leq bin_gtr bin_geq bin_eql bin_neq bin_and bin_or bin_xor bin_shl bin_shr bin_eql_iface_nil bin_neq_iface_nil bin_eql_nil_nil bin_neq_nil_nil bin_eql_ptr_nil bin_neq_ptr_nil bin_eql_nilptr bin_neq_nilptr op_un un_not un_neg un_xor op_cv cv_int op_ix ix_slice ix_array op_el el_array op_fa fa_ptr op_fd fd_agg op_xt xt_tuple op_mkI op_len ln_slice ln_string op_call' itT ptT slB stB intT fldB partV rdVar aggT opsH_nil opsH_plain opsH_guard' iteG_tt iteG_tf iteG_ft iteG_ff boolV_bool oB_some yield_eq updE_some updE_none evalE_tmp evalE_const evalE_func evalE_global C_skip C_region C_draw C_seq C_cond condH_true condH_false C_block C_loop C_exit C_ret then_normal then_normal' then_exit then_ret block_normal block_normal' block_ret block_exit post_ret post_normal res_nil res_tmp argE_cons argE_nil tuple0 tuple1 tuple2 tuple3
end Go.H
