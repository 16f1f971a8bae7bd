/- A logic of heaps over the given model: what a piece of code asks of the heap ahead of it, so that it comes to an end with what is wanted. Its conditions: none. -/
import Derived.Calls
import Derived.Laws.Sem
import Derived.Attr
import Derived.KernelRfl
namespace Go.H

abbrev Heap := Array Obj
abbrev Env := Nat → Value

def cellAt (h : Heap) (a : Addr) : Option Value :=
  match h[a.block]? with
  | some (.cells c _ _) => if a.spot.isSome then none else c[a.off]?
  | _ => none

def frozenAt (h : Heap) (a : Addr) : Bool :=
  match h[a.block]? with
  | some (.cells _ _ (lo, hi)) => lo ≤ a.off && a.off < hi
  | _ => false

def shapeAt (h : Heap) (r : Nat) : Option (TypeId × Nat) :=
  match h[r]? with
  | some (.cells c elem _) => some (elem, c.size)
  | _ => none

def setAt (h : Heap) (a : Addr) (v : Value) : Heap :=
  h.modify a.block fun
      | .cells c elem frozen => .cells (if a.spot.isSome then c else c.setIfInBounds a.off v) elem frozen
      | o => o

def freezeAt (h : Heap) (a : Addr) (n : Nat) : Heap :=
  if n = 0 then h else
  h.modify a.block fun
      | .cells c elem (lo, hi) => .cells c elem (if lo == hi then (a.off, a.off + n) else (min lo a.off, max hi (a.off + n)))
      | o => o

/-- Two worlds that part in the heap and in the count of draws alone. -/
structure Rest (w w' : World) : Prop where
  os : w'.os = w.os
  output : w'.output = w.output
  tape : w'.tape = w.tape

theorem Rest.refl (w : World) : Rest w w := ⟨rfl, rfl, rfl⟩
theorem Rest.trans {a b c : World} (h : Rest a b) (k : Rest b c) : Rest a c := ⟨k.os.trans h.os, k.output.trans h.output, k.tape.trans h.tape⟩

/-- The value of one cell. -/
def plainV : Value → Bool
  | .agg _ | .tuple _ => false
  | _ => true

/-- What an operation's meaning asks of the heap. -/
def SemH (P : Program) {α : Type} : Sem α → (α → Heap → Prop) → Heap → Prop
  | .pure a, Q, h => Q a h
  | .load _ a k, Q, h => match cellAt h a with
    | some v => SemH P (k v) Q h
    | none => False
  | .store _ a v k, Q, h => plainV v = true ∧ (cellAt h a).isSome = true ∧ frozenAt h a = false ∧ SemH P k Q (setAt h a v)
  | .new o k, Q, h => SemH P (k h.size) Q (h.push o)
  | .shape r k, Q, h => SemH P (k (shapeAt h r)) Q h
  | .freeze a n k, Q, h => SemH P k Q (freezeAt h a n)
  | .frozen a k, Q, h => SemH P (k (frozenAt h a)) Q h
  | .getObj r k, Q, h => match h[r]? with
    | some (.cells ..) => False
    | some o => SemH P (k o) Q h
    | none => False
  | .setObj r o k, Q, h => match h[r]? with
    | some (.cells ..) => False
    | some _ => SemH P k Q (h.setIfInBounds r o)
    | none => False
  | .choose q k, Q, h => if q.forced = true then SemH P (k 0) Q h else ∀ t, SemH P (k (q.cut t)) Q h
  | .sys _ _, _, _ => False
  | .program k, Q, h => SemH P (k P) Q h
  | .mark _ k, Q, h => SemH P k Q h
  | .halt _, _, _ => False

theorem SemH_sound {P : Program} {α : Type} (s : Sem α) : ∀ (Q : α → Heap → Prop) (w : World), SemH P s Q w.heap →
    ∃ a w', s.run P w = .ok a w' ∧ Q a w'.heap ∧ Rest w w' := by
  induction s with
  | pure a => exact fun Q w h => ⟨a, w, rfl, h, .refl w⟩
  | load m a k ih =>
    intro Q w h
    simp only [SemH] at h
    have hc : w.cell? a = cellAt w.heap a := rfl
    cases hv : cellAt w.heap a with
    | none => rw [hv] at h; exact h.elim
    | some v =>
      rw [hv] at h
      obtain ⟨b, w', hr, hq, hrest⟩ := ih v Q w h
      exact ⟨b, w', by simp only [Sem.run, hc, hv]; exact hr, hq, hrest⟩
  | store m a v k ih =>
    intro Q w h
    simp only [SemH] at h
    obtain ⟨hp, hs, hf, hk⟩ := h
    have hc : w.cell? a = cellAt w.heap a := rfl
    have hf' : w.frozen? a = false := hf
    obtain ⟨b, w', hr, hq, hrest⟩ := ih Q (w.setCell a v) hk
    refine ⟨b, w', ?_, hq, ⟨hrest.os, hrest.output, hrest.tape⟩⟩
    cases hv : cellAt w.heap a with
    | none => rw [hv] at hs; simp at hs
    | some u =>
      cases v <;> first | (simp [plainV] at hp; done) | (simp only [Sem.run, hc, hv, hf']; exact hr)
  | new o k ih =>
    intro Q w h
    obtain ⟨b, w', hr, hq, hrest⟩ := ih w.heap.size Q { w with heap := w.heap.push o } h
    exact ⟨b, w', hr, hq, ⟨hrest.os, hrest.output, hrest.tape⟩⟩
  | shape r k ih =>
    intro Q w h
    exact ih (w.shape? r) Q w h
  | freeze a n k ih =>
    intro Q w h
    have he : (w.freeze a n).heap = freezeAt w.heap a n := by
      unfold World.freeze freezeAt
      split <;> rfl
    obtain ⟨b, w', hr, hq, hrest⟩ := ih Q (w.freeze a n) (by rw [he]; exact h)
    refine ⟨b, w', hr, hq, Rest.trans ?_ hrest⟩
    unfold World.freeze
    split <;> exact ⟨rfl, rfl, rfl⟩
  | frozen a k ih =>
    intro Q w h
    exact ih (w.frozen? a) Q w h
  | getObj r k ih =>
    intro Q w h
    simp only [SemH] at h
    cases ho : w.heap[r]? with
    | none => rw [ho] at h; exact h.elim
    | some o =>
      rw [ho] at h
      cases o <;> first
        | exact h.elim
        | (obtain ⟨b, w', hr, hq, hrest⟩ := ih _ Q w h
           exact ⟨b, w', by simp only [Sem.run, ho]; exact hr, hq, hrest⟩)
  | setObj r o k ih =>
    intro Q w h
    simp only [SemH] at h
    cases ho : w.heap[r]? with
    | none => rw [ho] at h; exact h.elim
    | some u =>
      rw [ho] at h
      cases u <;> first
        | exact h.elim
        | (obtain ⟨b, w', hr, hq, hrest⟩ := ih Q { w with heap := w.heap.setIfInBounds r o } h
           exact ⟨b, w', by simp only [Sem.run, ho]; exact hr, hq, ⟨hrest.os, hrest.output, hrest.tape⟩⟩)
  | choose q k ih =>
    intro Q w h
    simp only [SemH] at h
    by_cases hf : q.forced = true
    · rw [if_pos hf] at h
      obtain ⟨b, w', hr, hq, hrest⟩ := ih 0 Q w h
      exact ⟨b, w', by simp only [Sem.run, hf, if_true]; exact hr, hq, hrest⟩
    · rw [if_neg hf] at h
      obtain ⟨b, w', hr, hq, hrest⟩ := ih _ Q { w with drawn := w.drawn + 1 } (h (w.tape w.drawn q))
      exact ⟨b, w', by simp only [Sem.run, hf, if_false, Bool.false_eq_true]; exact hr, hq, ⟨hrest.os, hrest.output, hrest.tape⟩⟩
  | sys c k ih => exact fun _ _ h => h.elim
  | program k ih => exact fun Q w h => ih P Q w h
  | mark m k ih => exact fun Q w h => ih Q w h
  | halt x => exact fun _ _ h => h.elim

theorem SemH_mono {P : Program} {α : Type} (s : Sem α) : ∀ {Q Q' : α → Heap → Prop} {h : Heap}, SemH P s Q h → (∀ a h', Q a h' → Q' a h') → SemH P s Q' h := by
  induction s with
  | pure a => exact fun h hq => hq _ _ h
  | load m a k ih =>
    intro Q Q' h hh hq
    simp only [SemH] at hh ⊢
    split at hh
    · exact ih _ hh hq
    · exact hh.elim
  | store m a v k ih => exact fun h hq => ⟨h.1, h.2.1, h.2.2.1, ih h.2.2.2 hq⟩
  | new o k ih => exact fun h hq => ih _ h hq
  | shape r k ih => exact fun h hq => ih _ h hq
  | freeze a n k ih => exact fun h hq => ih h hq
  | frozen a k ih => exact fun h hq => ih _ h hq
  | getObj r k ih =>
    intro Q Q' h hh hq
    simp only [SemH] at hh ⊢
    split at hh
    · exact hh.elim
    · exact ih _ hh hq
    · exact hh.elim
  | setObj r o k ih =>
    intro Q Q' h hh hq
    simp only [SemH] at hh ⊢
    split at hh
    · exact hh.elim
    · exact ih hh hq
    · exact hh.elim
  | choose q k ih =>
    intro Q Q' h hh hq
    simp only [SemH] at hh ⊢
    by_cases hf : q.forced = true
    · rw [if_pos hf] at hh ⊢; exact ih _ hh hq
    · rw [if_neg hf] at hh ⊢; exact fun t => ih _ (hh t) hq
  | sys c k ih => exact fun h _ => h.elim
  | program k ih => exact fun h hq => ih _ h hq
  | mark m k ih => exact fun h hq => ih h hq
  | halt x => exact fun h _ => h.elim

theorem SemH_bind {P : Program} {α β : Type} (s : Sem α) (f : α → Sem β) : ∀ (Q : β → Heap → Prop) (h : Heap),
    SemH P (s >>= f) Q h = SemH P s (fun a h' => SemH P (f a) Q h') h := by
  show ∀ (Q : β → Heap → Prop) (h : Heap), SemH P (Sem.bind s f) Q h = SemH P s (fun a h' => SemH P (f a) Q h') h
  induction s with
  | pure a => intro Q h; rfl
  | load m a k ih =>
    intro Q h
    simp only [Sem.bind, SemH]
    split
    · exact ih _ Q h
    · rfl
  | store m a v k ih => intro Q h; simp only [Sem.bind, SemH]; rw [ih]
  | new o k ih => intro Q h; exact ih _ Q _
  | shape r k ih => intro Q h; exact ih _ Q _
  | freeze a n k ih => intro Q h; exact ih Q _
  | frozen a k ih => intro Q h; exact ih _ Q _
  | getObj r k ih =>
    intro Q h
    simp only [Sem.bind, SemH]
    split
    · rfl
    · exact ih _ Q h
    · rfl
  | setObj r o k ih =>
    intro Q h
    simp only [Sem.bind, SemH]
    split
    · rfl
    · exact ih Q _
    · rfl
  | choose q k ih =>
    intro Q h
    simp only [Sem.bind, SemH]
    split
    · exact ih _ Q h
    · simp only [ih]
  | sys c k ih => intro Q h; rfl
  | program k ih => intro Q h; exact ih _ Q _
  | mark m k ih => intro Q h; exact ih Q _
  | halt x => intro Q h; rfl

theorem SemH_pure {P : Program} {α : Type} (a : α) (Q : α → Heap → Prop) (h : Heap) : SemH P (pure a) Q h = Q a h := rfl

/-- What a call asks of the heap. -/
def CallsH (P : Program) (f : FuncId) (args : Array Value) (h : Heap) (R : Value → Heap → Prop) : Prop :=
  ∀ w : World, w.heap = h → Calls P f args w fun e w' => ∃ v, e = .returned v ∧ R v w'.heap ∧ Rest w w'

theorem CallsH.mono {P : Program} {f : FuncId} {args : Array Value} {h : Heap} {R R' : Value → Heap → Prop} (hc : CallsH P f args h R)
    (hr : ∀ v h', R v h' → R' v h') : CallsH P f args h R' :=
  fun w hw => (hc w hw).mono fun _ _ ⟨v, he, hR, hrest⟩ => ⟨v, he, hr _ _ hR, hrest⟩

def nextH (P : Program) (K : Value → Heap → Prop) : Next → Heap → Prop
  | .value v, h => K v h
  | .skip, h => K undef h
  | .enter f args, h => CallsH P f args h K
  | _, _ => False

def opH (P : Program) (ρ : Operand → Value) (o : Oper) (K : Value → Heap → Prop) (h : Heap) : Prop :=
  SemH P (execOp ρ o) (nextH P K) h

theorem opH_sound {P : Program} {a : Act} {o : Oper} {K : Value → Heap → Prop} {w : World} {next : Act → World → Prop} {Q : Exit → Act → World → Prop}
    (h : opH P a.eval o K w.heap) (hn : ∀ v w', K v w'.heap → Rest w w' → next (a.put o.dst v) w') : o.wp P a w next Q := by
  obtain ⟨nx, w', hr, hq, hrest⟩ := SemH_sound _ _ w h
  unfold Oper.wp
  rw [hr]
  cases nx <;> first | exact hq.elim | skip
  · exact hn _ _ hq hrest
  · exact hn _ _ hq hrest
  · exact (hq w' rfl).mono fun e w'' ⟨v, he, hK, hrest'⟩ => by subst he; exact hn _ _ hK (hrest.trans hrest')

def evalE (e : Env) : Operand → Value
  | .tmp t => e t
  | .const v => v
  | .global g => .pointer (some ⟨g, 0, none⟩)
  | .func f => .func (.func f) #[] #[]

def updE (e : Env) (d : Option Tmp) (v : Value) : Env :=
  match d with
  | some d => fun t => if t = d then v else e t
  | none => e

def envOf (a : Act) : Env := fun t => a.tmps.getD t undef

theorem evalE_envOf (a : Act) : evalE (envOf a) = a.eval := by
  funext x
  cases x <;> rfl

def dstOk (n : Nat) (o : Oper) : Bool := match o.dst with | some d => decide (d < n) | none => true

theorem envOf_put {a : Act} {o : Oper} (v : Value) (h : dstOk a.tmps.size o = true) : envOf (a.put o.dst v) = updE (envOf a) o.dst v := by
  unfold dstOk at h
  unfold Act.put updE envOf
  cases hd : o.dst with
  | none => rfl
  | some d =>
    rw [hd] at h
    simp only [decide_eq_true_eq] at h
    funext t
    simp only [Array.getD_eq_getD_getElem?, Array.getElem?_setIfInBounds]
    by_cases e : t = d
    · subst e; simp [h]
    · have e' : ¬ d = t := fun x => e x.symm
      simp [e, e']

def yieldE (ops : Array Oper) (e : Env) (j : Nat) : Option Bool :=
  match (ops[j]?).bind (·.dst) with
  | some t => match e t with
    | .bool b => some b
    | _ => none
  | none => none

theorem yieldE_envOf (ops : Array Oper) (a : Act) : yieldE ops (envOf a) = yielded ops a.tmps := by
  funext j
  unfold yieldE yielded envOf
  cases hd : (ops[j]?).bind (·.dst) with
  | none => rfl
  | some t =>
    simp only [Option.bind_some, Array.getD_eq_getD_getElem?]
    cases ht : a.tmps[t]? with
    | none => rfl
    | some v => cases v <;> rfl

/-- Operations, in the order of a list. -/
def opsH (P : Program) (ops : Array Oper) (K : Env → Heap → Prop) : List Oper → Env → Heap → Prop
  | [], e, h => K e h
  | o :: rest, e, h =>
    if Region.wanted o (yieldE ops e) = true then opH P (evalE e) o (fun v h' => opsH P ops K rest (updE e o.dst v) h') h
    else opsH P ops K rest (updE e o.dst undef) h

theorem Act.put_size (a : Act) (d : Option Tmp) (v : Value) : (a.put d v).tmps.size = a.tmps.size := by
  cases d <;> simp [Act.put]
theorem Act.put_defers (a : Act) (d : Option Tmp) (v : Value) : (a.put d v).defers = a.defers := by
  cases d <;> rfl

/-- What holds of a frame and a world, out of what holds of slots and a heap. -/
def up (n : Nat) (ds : List Deferred) (w₀ : World) (K : Env → Heap → Prop) (a : Act) (w : World) : Prop :=
  a.tmps.size = n ∧ a.defers = ds ∧ Rest w₀ w ∧ K (envOf a) w.heap

def upX (n : Nat) (ds : List Deferred) (w₀ : World) (Q : Exit → Env → Heap → Prop) (x : Exit) (a : Act) (w : World) : Prop :=
  up n ds w₀ (Q x) a w

theorem opsI_sound {P : Program} {ops : Array Oper} {K : Env → Heap → Prop} {n : Nat} {ds : List Deferred} {w₀ : World} {Q : Exit → Act → World → Prop}
    (hQ : ∀ a w, up n ds w₀ K a w → Q .normal a w) (hd : ops.toList.all (dstOk n) = true) : ∀ (l : List Nat) (a : Act) (w : World),
    up n ds w₀ (opsH P ops K (l.filterMap (ops[·]?))) a w → wpOps P ops Q l a w
  | [], a, w, h => hQ a w h
  | i :: rest, a, w, ⟨hn, hds, hr, hk⟩ => by
    have ih := opsI_sound (P := P) (ops := ops) hQ hd rest
    unfold wpOps
    cases ho : ops[i]? with
    | none =>
      simp only [List.filterMap_cons, ho] at hk
      exact ih a w ⟨hn, hds, hr, hk⟩
    | some o =>
      have hdo : dstOk n o = true := by
        rw [List.all_eq_true] at hd
        refine hd o ?_
        obtain ⟨hi, he⟩ := Array.getElem?_eq_some_iff.1 ho
        rw [← he]
        simp
      simp only [List.filterMap_cons, ho, opsH, yieldE_envOf, evalE_envOf] at hk
      dsimp only
      split
      · rename_i hw
        rw [if_pos hw] at hk
        refine .inl (opH_sound hk fun v w' hv hrest => ih _ _ ⟨?_, ?_, hr.trans hrest, ?_⟩)
        · rw [Act.put_size]; exact hn
        · rw [Act.put_defers]; exact hds
        · rw [envOf_put v (by rw [hn]; exact hdo)]; exact hv
      · rename_i hw
        rw [if_neg hw] at hk
        refine ih _ _ ⟨?_, ?_, hr, ?_⟩
        · rw [Act.put_size]; exact hn
        · rw [Act.put_defers]; exact hds
        · rw [envOf_put undef (by rw [hn]; exact hdo)]; exact hk

theorem filterMap_range {α : Type} (a : Array α) : (List.range a.size).filterMap (a[·]?) = a.toList := by
  apply List.ext_getElem?
  have : ∀ n, n ≤ a.size → (List.range n).filterMap (a[·]?) = a.toList.take n := by
    intro n
    induction n with
    | zero => intro _; rfl
    | succ n ih =>
      intro hn
      rw [List.range_succ, List.filterMap_append, ih (by omega), List.take_add_one]
      have h1 : a[n]? = some a[n] := by simp
      simp only [List.filterMap_cons, h1, List.filterMap_nil, Array.getElem?_toList, Option.toList_some]
  intro i
  rw [this _ (Nat.le_refl _), List.take_of_length_le (by simp)]

/-- A region that draws its order: whatever the order. -/
def drawH (P : Program) (ops : Array Oper) (K : Env → Heap → Prop) (e : Env) (h : Heap) : Prop :=
  ∀ t, opsH P ops K ((Region.schedule (P.follows .mixedOrders) ops t).filterMap (ops[·]?)) e h

def thenH (K : Env → Heap → Prop) (Q : Exit → Env → Heap → Prop) : Exit → Env → Heap → Prop
  | .normal, e, h => K e h
  | x, e, h => Q x e h

def blockH (id : Nat) (Q : Exit → Env → Heap → Prop) : Exit → Env → Heap → Prop
  | .exit i, e, h => if i = id then Q .normal e h else Q (.exit i) e h
  | x, e, h => Q x e h

/-- A loop: the least of all that hold where a round leads to them, or out. -/
def loopH (B : (Exit → Env → Heap → Prop) → Env → Heap → Prop) (Q : Exit → Env → Heap → Prop) (e : Env) (h : Heap) : Prop :=
  ∀ X : Env → Heap → Prop, (∀ e h, B (thenH X Q) e h → X e h) → X e h

/-- What code asks of the slots and the heap ahead of it. -/
def CodeH (P : Program) : Code → (Exit → Env → Heap → Prop) → Env → Heap → Prop
  | .skip, Q, e, h => Q .normal e h
  | .region _ ops false, Q, e, h => opsH P ops (Q .normal) ops.toList e h
  | .region _ ops true, Q, e, h => drawH P ops (Q .normal) e h
  | .seq a b, Q, e, h => CodeH P a (thenH (CodeH P b Q) Q) e h
  | .cond c a b, Q, e, h => match evalE e c with
    | .bool t => if t = true then CodeH P a Q e h else CodeH P b Q e h
    | _ => False
  | .block id c, Q, e, h => CodeH P c (blockH id Q) e h
  | .loop c, Q, e, h => loopH (CodeH P c) Q e h
  | .exit id, Q, e, h => Q (.exit id) e h
  | .label _, Q, e, h => Q .normal e h
  | .goto l, Q, e, h => Q (.goto l) e h
  | .ret, Q, e, h => Q .ret e h
  | _, _, _, _ => False

theorem opH_mono {P : Program} {ρ : Operand → Value} {o : Oper} {K K' : Value → Heap → Prop} {h : Heap} (hh : opH P ρ o K h) (hk : ∀ v h', K v h' → K' v h') : opH P ρ o K' h := by
  refine SemH_mono _ hh fun nx h' hn => ?_
  cases nx <;> first | exact hn.elim | exact hk _ _ hn | exact CallsH.mono hn hk

theorem opsH_mono {P : Program} {ops : Array Oper} {K K' : Env → Heap → Prop} (hk : ∀ e h, K e h → K' e h) : ∀ (l : List Oper) (e : Env) (h : Heap), opsH P ops K l e h → opsH P ops K' l e h
  | [], e, h, hh => hk _ _ hh
  | o :: rest, e, h, hh => by
    unfold opsH at hh ⊢
    split
    · rename_i hw; rw [if_pos hw] at hh; exact opH_mono hh fun v h' => opsH_mono hk rest _ _
    · rename_i hw; rw [if_neg hw] at hh; exact opsH_mono hk rest _ _ hh

theorem thenH_mono {K K' : Env → Heap → Prop} {Q Q' : Exit → Env → Heap → Prop} (hk : ∀ e h, K e h → K' e h) (hq : ∀ x e h, Q x e h → Q' x e h) (x : Exit) (e : Env) (h : Heap) (hh : thenH K Q x e h) : thenH K' Q' x e h := by
  cases x <;> first | exact hk _ _ hh | exact hq _ _ _ hh

theorem CodeH_mono {P : Program} (c : Code) : ∀ {Q Q' : Exit → Env → Heap → Prop} (e : Env) (h : Heap), (∀ x e h, Q x e h → Q' x e h) → CodeH P c Q e h → CodeH P c Q' e h := by
  induction c with
  | skip => exact fun e h hq hh => hq _ _ _ hh
  | region id ops draw =>
    intro Q Q' e h hq hh
    cases draw with
    | false => exact opsH_mono (hq .normal) _ _ _ hh
    | true => exact fun t => opsH_mono (hq .normal) _ _ _ (hh t)
  | seq x y ihx ihy => exact fun e h hq hh => ihx e h (thenH_mono (fun e h => ihy e h hq) hq) hh
  | cond c x y ihx ihy =>
    intro Q Q' e h hq hh
    simp only [CodeH] at hh ⊢
    split at hh
    · split at hh
      · rename_i ht; rw [if_pos ht]; exact ihx e h hq hh
      · rename_i ht; rw [if_neg ht]; exact ihy e h hq hh
    · exact hh.elim
  | block id c ih =>
    intro Q Q' e h hq hh
    refine ih e h ?_ hh
    intro x e h hx
    cases x with
    | exit i =>
      simp only [blockH] at hx ⊢
      by_cases hi : i = id
      · rw [if_pos hi] at hx ⊢; exact hq _ _ _ hx
      · rw [if_neg hi] at hx ⊢; exact hq _ _ _ hx
    | _ => exact hq _ _ _ hx
  | loop c ih =>
    intro Q Q' e h hq hh X hX
    exact hh X fun e h hB => hX e h (ih e h (thenH_mono (fun _ _ h => h) hq) hB)
  | exit id => exact fun e h hq hh => hq _ _ _ hh
  | label l => exact fun e h hq hh => hq _ _ _ hh
  | goto l => exact fun e h hq hh => hq _ _ _ hh
  | ret => exact fun e h hq hh => hq _ _ _ hh
  | rangeFunc f p x y _ _ => exact fun e h hq hh => hh.elim
  | scope c ih => exact fun e h hq hh => hh.elim
  | refuse s => exact fun e h hq hh => hh.elim

/-- One round more. -/
theorem loop_unroll {P : Program} {c : Code} {Q : Exit → Env → Heap → Prop} {e : Env} {h : Heap} (hh : CodeH P c (thenH (loopH (CodeH P c) Q) Q) e h) : loopH (CodeH P c) Q e h :=
  fun X hX => hX _ _ (CodeH_mono c e h (thenH_mono (fun _ _ h => h X hX) (fun _ _ _ h => h)) hh)

/-- A loop by what holds at its head, and a number that each round lowers. -/
theorem loop_inv {P : Program} {c : Code} {Q : Exit → Env → Heap → Prop} {e : Env} {h : Heap} (I : Env → Heap → Prop) (μ : Env → Heap → Nat) (h0 : I e h)
    (hround : ∀ e h, I e h → CodeH P c (thenH (fun e' h' => I e' h' ∧ μ e' h' < μ e h) Q) e h) : loopH (CodeH P c) Q e h := by
  intro X hX
  have key : ∀ n e h, μ e h = n → I e h → X e h := by
    intro n
    induction n using Nat.strongRecOn with
    | _ n ih =>
      intro e h hn hI
      exact hX _ _ (CodeH_mono c e h (thenH_mono (fun e' h' hh => ih _ (hn ▸ hh.2) e' h' rfl hh.1) (fun _ _ _ h => h)) (hround e h hI))
  exact key _ e h rfl h0

/-- Each slot that code writes is one of the frame's. -/
def codeOk (n : Nat) : Code → Bool
  | .region _ ops _ => ops.toList.all (dstOk n)
  | .seq a b | .cond _ a b => codeOk n a && codeOk n b
  | .block _ c | .loop c => codeOk n c
  | _ => true

theorem CodeH_sound {P : Program} {n : Nat} {ds : List Deferred} (c : Code) : codeOk n c = true → ∀ (Q : Exit → Env → Heap → Prop) (Q' : Exit → Act → World → Prop) (w₀ : World),
    (∀ x a w, upX n ds w₀ Q x a w → Q' x a w) → ∀ (a : Act) (w : World), up n ds w₀ (CodeH P c Q) a w → c.wp P Q' a w := by
  induction c with
  | skip => exact fun _ Q Q' w₀ hQ a w h => wp_skip (hQ _ _ _ h)
  | region id ops draw =>
    intro hok Q Q' w₀ hQ a w h
    cases draw with
    | false => exact wp_region (opsI_sound (fun a w h => hQ _ _ _ h) hok _ a w (by rw [filterMap_range]; exact h))
    | true =>
      refine wp_region_draw fun t => ?_
      obtain ⟨hn, hds, hr, hk⟩ := h
      exact opsI_sound (fun a w h => hQ _ _ _ h) hok _ a _ ⟨hn, hds, ⟨hr.os, hr.output, hr.tape⟩, hk t⟩
  | seq x y ihx ihy =>
    intro hok Q Q' w₀ hQ a w h
    simp only [codeOk, Bool.and_eq_true] at hok
    refine wp_seq (ihx hok.1 (thenH (CodeH P y Q) Q) _ w₀ ?_ a w h)
    intro e a w h
    cases e with
    | normal => exact ihy hok.2 Q Q' w₀ hQ a w h
    | _ => exact hQ _ _ _ h
  | cond c x y ihx ihy =>
    intro hok Q Q' w₀ hQ a w h
    simp only [codeOk, Bool.and_eq_true] at hok
    obtain ⟨hn, hds, hr, hk⟩ := h
    simp only [CodeH, evalE_envOf] at hk
    split at hk
    · rename_i t ht
      refine wp_cond ht ?_
      split at hk
      · rename_i htt
        subst htt
        exact ihx hok.1 Q Q' w₀ hQ a w ⟨hn, hds, hr, hk⟩
      · rename_i htt
        obtain rfl : t = false := by simpa using htt
        exact ihy hok.2 Q Q' w₀ hQ a w ⟨hn, hds, hr, hk⟩
    · exact hk.elim
  | block id c ih =>
    intro hok Q Q' w₀ hQ a w h
    refine wp_block (ih hok (blockH id Q) _ w₀ ?_ a w h)
    intro e a w h
    cases e with
    | exit i =>
      unfold upX up blockH at h
      unfold Exit.inBlock
      by_cases hi : i = id
      · simp only [hi, if_true] at h ⊢; exact hQ _ _ _ h
      · simp only [hi, if_false] at h ⊢; exact hQ _ _ _ h
    | _ => exact hQ _ _ _ h
  | loop c ih =>
    intro hok Q Q' w₀ hQ a w h
    obtain ⟨hn, hds, hr, hk⟩ := h
    have key := hk (fun e h => ∀ (a : Act) (w : World), a.tmps.size = n → a.defers = ds → Rest w₀ w → envOf a = e → w.heap = h → ∀ (b : Frame) (k : List Item) (cs : List Frame),
      ∃ x a' w', Q' x a' w' ∧ Arrives P (lone (b.at a (.code c :: .inLoop c :: k)) cs w) b k cs x a' w') (by
        intro e h hB a w hn hds hr he hh b k cs
        subst he
        subst hh
        obtain ⟨x, a₁, w₁, hq, harr⟩ := ih hok (thenH _ Q) (fun x a' w' => upX n ds w₀ (thenH (fun e h => ∀ (a : Act) (w : World), a.tmps.size = n → a.defers = ds → Rest w₀ w → envOf a = e → w.heap = h → ∀ (b : Frame) (k : List Item) (cs : List Frame),
          ∃ x a' w', Q' x a' w' ∧ Arrives P (lone (b.at a (.code c :: .inLoop c :: k)) cs w) b k cs x a' w') Q) x a' w') w₀ (fun _ _ _ h => h) a w ⟨hn, hds, hr, hB⟩ b (.inLoop c :: k) cs
        obtain ⟨hn₁, hds₁, hr₁, hq⟩ := hq
        cases x with
        | normal =>
          obtain ⟨x₂, a₂, w₂, hq₂, harr₂⟩ := hq a₁ w₁ hn₁ hds₁ hr₁ rfl rfl b k cs
          exact ⟨x₂, a₂, w₂, hq₂, .of_steps (Steps.trans harr (.one step_inLoop)) harr₂⟩
        | exit id => exact ⟨_, a₁, w₁, hQ _ _ _ ⟨hn₁, hds₁, hr₁, hq⟩, .pass (x := .inLoop c) rfl (fun _ _ => .inl (by simp)) harr⟩
        | goto l => exact ⟨_, a₁, w₁, hQ _ _ _ ⟨hn₁, hds₁, hr₁, hq⟩, .pass (x := .inLoop c) rfl (fun _ _ => .inl (by simp)) harr⟩
        | ret => exact ⟨_, a₁, w₁, hQ _ _ _ ⟨hn₁, hds₁, hr₁, hq⟩, .pass (x := .inLoop c) rfl (fun _ _ => .inl (by simp)) harr⟩
        | panic ch => exact ⟨_, a₁, w₁, hQ _ _ _ ⟨hn₁, hds₁, hr₁, hq⟩, .pass (x := .inLoop c) rfl (fun _ _ => .inl (by simp)) harr⟩
        | outgrown => exact ⟨_, a₁, w₁, hQ _ _ _ ⟨hn₁, hds₁, hr₁, hq⟩, .pass (x := .inLoop c) rfl (fun _ _ => .inl (by simp)) harr⟩)
    intro b k cs
    obtain ⟨x, a', w', hq, harr⟩ := key a w hn hds hr rfl rfl b k cs
    exact ⟨x, a', w', hq, .of_steps (.one step_loop) harr⟩
  | exit id => exact fun _ Q Q' w₀ hQ a w h => wp_exit (hQ _ _ _ h)
  | label l => exact fun _ Q Q' w₀ hQ a w h => wp_label (hQ _ _ _ h)
  | goto l => exact fun _ Q Q' w₀ hQ a w h => wp_goto (hQ _ _ _ h)
  | ret => exact fun _ Q Q' w₀ hQ a w h => wp_ret (hQ _ _ _ h)
  | rangeFunc f p x y _ _ => exact fun _ Q Q' w₀ hQ a w h => h.2.2.2.elim
  | scope c ih => exact fun _ Q Q' w₀ hQ a w h => h.2.2.2.elim
  | refuse s => exact fun _ Q Q' w₀ hQ a w h => h.2.2.2.elim


/-- n cells from an address on. -/
def cellsAt (h : Heap) (a : Addr) : Nat → Option (List Value)
  | 0 => some []
  | n + 1 => match cellsAt h a n, cellAt h (a.add n) with
    | some l, some v => some (l ++ [v])
    | _, _ => none

def aggT : Option TypeDesc → Bool
  | some (.struct _) | some (.array _ _) => true
  | _ => false

/-- A variable of a type. -/
def readVar (P : Program) (h : Heap) (t : TypeId) (a : Addr) : Option Value :=
  if aggT (P.underlying t) = true then (cellsAt h a (P.cellsOf t)).map (fun l => .agg l.toArray) else cellAt h a

theorem run_load {P : Program} {w : World} {a : Addr} {v : Value} (h : cellAt w.heap a = some v) : (load a).run P w = .ok v w := by
  have hc : w.cell? a = some v := h
  simp only [load, Sem.run, hc]

theorem run_bind_ok {P : Program} {α β : Type} {s : Sem α} {f : α → Sem β} {w w' : World} {a : α} (h : s.run P w = .ok a w') : (s >>= f).run P w = (f a).run P w' := by
  rw [Sem.run_bind, h]
  rfl

theorem loadCellsFrom_run {P : Program} {w : World} {a : Addr} : ∀ (n i : Nat) (acc : Array Value) (l : List Value),
    (∀ j, j < n → cellAt w.heap (a.add (i + j)) = l[j]?) → l.length = n → (loadCellsFrom a i n acc).run P w = .ok (acc ++ l.toArray) w
  | 0, i, acc, l, _, hl => by
    obtain rfl : l = [] := List.length_eq_zero_iff.1 hl
    simp [loadCellsFrom, pure]
  | n + 1, i, acc, l, h, hl => by
    match l, hl with
    | v :: l, hl =>
      have h0 := h 0 (by omega)
      simp only [Nat.add_zero, List.getElem?_cons_zero] at h0
      unfold loadCellsFrom
      rw [run_bind_ok (run_load h0)]
      rw [loadCellsFrom_run n (i + 1) (acc.push v) l (fun j hj => by
        have := h (j + 1) (by omega)
        rw [show i + 1 + j = i + (j + 1) from by omega, this]
        rfl) (by simpa using hl)]
      simp

theorem cellsAt_spec {h : Heap} {a : Addr} : ∀ {n : Nat} {l : List Value}, cellsAt h a n = some l → l.length = n ∧ ∀ j, j < n → cellAt h (a.add j) = l[j]?
  | 0, l, hl => by
    simp only [cellsAt, Option.some.injEq] at hl
    subst hl
    exact ⟨rfl, fun j hj => by omega⟩
  | n + 1, l, hl => by
    simp only [cellsAt] at hl
    split at hl
    · rename_i l' v h1 h2
      simp only [Option.some.injEq] at hl
      subst hl
      obtain ⟨hn, hj⟩ := cellsAt_spec h1
      refine ⟨by simp [hn], fun j hlt => ?_⟩
      by_cases e : j < n
      · rw [hj j e, List.getElem?_append_left (by omega)]
      · obtain rfl : j = n := by omega
        rw [h2, List.getElem?_append_right (by omega), hn]
        simp
    · simp at hl

theorem run_loadVar {P : Program} {w : World} {t : TypeId} {a : Addr} {v : Value} (hi : (P.info? t).isSome = true) (hu : (P.underlying t).isSome = true)
    (h : readVar P w.heap t a = some v) : (loadVar t a).run P w = .ok v w := by
  obtain ⟨i, hi⟩ := Option.isSome_iff_exists.1 hi
  obtain ⟨d, hu⟩ := Option.isSome_iff_exists.1 hu
  have hun : (underlying t).run P w = .ok d w := by
    simp only [underlying, program]
    simp [bind, Sem.bind, Sem.run, hu, pure]
  have hsz : (sizeOf t).run P w = .ok (P.cellsOf t) w := by
    simp only [sizeOf, typeInfo, program]
    simp [bind, Sem.bind, Sem.run, hi, pure, Program.cellsOf]
  have hag : (isAgg t).run P w = .ok (aggT (P.underlying t)) w := by
    unfold isAgg
    rw [run_bind_ok hun, hu]
    cases d <;> rfl
  unfold readVar at h
  unfold loadVar
  rw [run_bind_ok hag]
  by_cases hg : aggT (P.underlying t) = true
  · rw [if_pos hg] at h
    rw [if_pos hg]
    cases hc : cellsAt w.heap a (P.cellsOf t) with
    | none => rw [hc] at h; simp at h
    | some l =>
      rw [hc] at h
      simp only [Option.map_some, Option.some.injEq] at h
      subst h
      obtain ⟨hn, hj⟩ := cellsAt_spec hc
      rw [run_bind_ok hsz]
      unfold loadCells
      rw [run_bind_ok (loadCellsFrom_run _ 0 #[] l (fun j hj' => by rw [Nat.zero_add]; exact hj j hj') hn)]
      simp [pure]
  · rw [if_neg hg] at h
    rw [if_neg hg]
    exact run_load h

def okType (P : Program) (t : TypeId) : Bool := (P.info? t).isSome && (P.underlying t).isSome

/-- A function's results. -/
def resH (P : Program) (ρ : Env) (h : Heap) : List ResultVar → (List Value → Prop) → Prop
  | [], K => K []
  | .tmp t :: l, K => resH P ρ h l (fun vs => K (ρ t :: vs))
  | .cell a t :: l, K => match ρ a with
    | .pointer (some p) => okType P t = true ∧ match readVar P h t p with
      | some v => resH P ρ h l (fun vs => K (v :: vs))
      | none => False
    | _ => False

def tupleOf : List Value → Value
  | [v] => v
  | vs => .tuple vs.toArray

theorem resH_sound {P : Program} {a : Act} {w : World} : ∀ (l : List ResultVar) (K : List Value → Prop), resH P (envOf a) w.heap l K →
    ∃ vs, K vs ∧ (l.mapM (fun | .tmp t => pure (a.tmps.getD t undef) | .cell x t => do loadVar t (← asAddr (a.tmps.getD x undef)) : ResultVar → Sem Value)).run P w = .ok vs w
  | [], K, h => ⟨[], h, by simp [pure]⟩
  | .tmp t :: l, K, h => by
    simp only [resH] at h
    obtain ⟨vs, hk, hr⟩ := resH_sound l _ h
    refine ⟨_, hk, ?_⟩
    rw [List.mapM_cons]
    rw [run_bind_ok (a := a.tmps.getD t undef) (w' := w) rfl, run_bind_ok hr]
    rfl
  | .cell x t :: l, K, h => by
    simp only [resH] at h
    split at h
    · rename_i p hp
      obtain ⟨hok, h⟩ := h
      split at h
      · rename_i v hv
        obtain ⟨vs, hk, hr⟩ := resH_sound l _ h
        refine ⟨_, hk, ?_⟩
        have hp' : a.tmps.getD x undef = .pointer (some p) := hp
        unfold okType at hok
        simp only [Bool.and_eq_true] at hok
        rw [List.mapM_cons]
        rw [run_bind_ok (a := v) (w' := w) (by
          show (Sem.run P (asAddr (a.tmps.getD x undef) >>= fun y => loadVar t y) w) = _
          rw [hp', run_bind_ok (a := p) (w' := w) rfl]
          exact run_loadVar hok.1 hok.2 hv), run_bind_ok hr]
        rfl
      · exact h.elim
    · exact h.elim

def postH (P : Program) (rs : List ResultVar) (R : Value → Heap → Prop) : Exit → Env → Heap → Prop
  | .normal, e, h | .ret, e, h => resH P e h rs (fun vs => R (tupleOf vs) h)
  | _, _, _ => False

theorem results_run {P : Program} {fn : Func} {a : Act} {w : World} {vs : List Value}
    (h : (fn.results.toList.mapM (fun | .tmp t => pure (a.tmps.getD t undef) | .cell x t => do loadVar t (← asAddr (a.tmps.getD x undef)) : ResultVar → Sem Value)).run P w = .ok vs w) :
    (results fn a.tmps).run P w = .ok (tupleOf vs) w := by
  unfold results
  rw [Array.mapM_eq_mapM_toList]
  have hm : ((List.toArray <$> fn.results.toList.mapM (fun | .tmp t => pure (a.tmps.getD t undef) | .cell x t => do loadVar t (← asAddr (a.tmps.getD x undef)) : ResultVar → Sem Value)) : Sem (Array Value)).run P w = .ok vs.toArray w := by
    show (Sem.bind _ _).run P w = _
    exact (run_bind_ok h).trans rfl
  refine (run_bind_ok hm).trans ?_
  match vs with
  | [] => rfl
  | [v] => rfl
  | u :: v :: l =>
    show Sem.run P (pure _) w = _
    rw [dif_neg (by simp)]
    rfl

/-- Slots out of a call's arguments. -/
def argE : Nat → List Value → Env
  | _, [] => fun _ => undef
  | i, v :: l => fun t => if t = i then v else argE (i + 1) l t

theorem argE_get : ∀ (l : List Value) (i t : Nat), argE i l (i + t) = l.getD t undef
  | [], i, t => by simp [argE]
  | v :: l, i, t => by
    cases t with
    | zero => simp [argE]
    | succ t =>
      have := argE_get l (i + 1) t
      simp only [argE]
      rw [if_neg (by omega), show i + (t + 1) = i + 1 + t from by omega, this]
      simp

/-- The code of a function, walked. -/
theorem CallsH.of_code {P : Program} {f : FuncId} {fn : Func} {c : Code} {args : List Value} {h : Heap} {R : Value → Heap → Prop}
    (hf : P.funcs[f]? = some fn) (hb : fn.body = some c) (hok : (codeOk fn.ntmps c && decide (args.length ≤ fn.ntmps)) = true)
    (hc : CodeH P c (postH P fn.results.toList R) (argE 0 args) h) : CallsH P f args.toArray h R := by
  simp only [Bool.and_eq_true, decide_eq_true_eq] at hok
  intro w hw
  subst hw
  refine calls_of_wp hf hb ?_
  refine CodeH_sound (n := fn.ntmps) (ds := []) c hok.1 (postH P fn.results.toList R) _ w ?_ _ _ ⟨?_, rfl, .refl w, ?_⟩
  · intro x a w' hx
    obtain ⟨hn, hds, hrest, hq⟩ := hx
    cases x <;> first
      | exact hq.elim
      | (obtain ⟨vs, hk, hr⟩ := resH_sound _ _ hq
         exact ⟨hds, _, results_run hr, _, rfl, hk, hrest⟩)
  · simp; omega
  · have he : envOf { tmps := args.toArray ++ Array.replicate (fn.ntmps - args.toArray.size) undef, defers := [] } = argE 0 args := by
      funext t
      have := argE_get args 0 t
      rw [Nat.zero_add] at this
      rw [this]
      unfold envOf
      simp only [Array.getD_eq_getD_getElem?, List.getD_eq_getElem?_getD]
      rw [Array.getElem?_append]
      split
      · simp
      · rename_i hlt
        simp only [List.size_toArray, Nat.not_lt] at hlt
        rw [List.getElem?_eq_none hlt]
        simp only [Array.getElem?_replicate]
        split <;> rfl
    rw [he]
    exact hc

end Go.H
