/- A region that draws its order: what reads may be taken first, and what acts stands in the order of the text, or in each that may be. Its conditions: none. -/
import Derived.Test.YtekpbjiahlnknaaDoorVHMem
import Derived.Still
namespace Go.H

section
variable {P : Program} {md : Region.Mode} {ops : Array Oper} {K : Env → Heap → Prop}

def opI (P : Program) (ops : Array Oper) (i : Nat) (K : Env → Heap → Prop) (e : Env) (h : Heap) : Prop :=
  match ops[i]? with
  | none => K e h
  | some o => if Region.wanted o (yieldE ops e) = true then opH P (evalE e) o (fun v h' => K (updE e o.dst v) h') h else K (updE e o.dst undef) h

theorem opI_mono {i : Nat} {K K' : Env → Heap → Prop} {e : Env} {h : Heap} (hk : ∀ e h, K e h → K' e h) (hh : opI P ops i K e h) : opI P ops i K' e h := by
  unfold opI at *
  split
  · rename_i ho; rw [ho] at hh; exact hk _ _ hh
  · rename_i o ho
    rw [ho] at hh
    dsimp only at hh
    split
    · rename_i hw; rw [if_pos hw] at hh; exact opH_mono hh fun v h' => hk _ _
    · rename_i hw; rw [if_neg hw] at hh; exact hk _ _ hh

/-- Whatever order is picked from here on; C holds till what ends it. -/
def anyH (P : Program) (md : Region.Mode) (ops : Array Oper) (C : Heap → Prop) (brk : Nat → Bool) (K : Env → Heap → Prop) : Nat → Array Bool → Env → Heap → Prop
  | 0, listed, e, h => Region.ready md ops listed = [] ∧ K e h
  | fuel + 1, listed, e, h => (Region.ready md ops listed = [] → K e h) ∧
    ∀ i ∈ Region.ready md ops listed, opI P ops i (fun e' h' => (brk i = true ∨ (C h → C h')) ∧ anyH P md ops C brk K fuel (listed.setIfInBounds i true) e' h') e h

theorem opsH_opI (i : Nat) (rest : List Nat) (e : Env) (h : Heap) :
    opsH P ops K ((i :: rest).filterMap (ops[·]?)) e h = opI P ops i (opsH P ops K (rest.filterMap (ops[·]?))) e h := by
  unfold opI
  cases ho : ops[i]? with
  | none => simp [ho]
  | some o => simp [ho, opsH]

theorem anyH_sound {C : Heap → Prop} {brk : Nat → Bool} : ∀ (fuel t : Nat) (listed : Array Bool) (e : Env) (h : Heap), anyH P md ops C brk K fuel listed e h →
    opsH P ops K ((Region.linearise.go md ops fuel t listed []).filterMap (ops[·]?)) e h := by
  intro fuel
  induction fuel with
  | zero => intro t listed e h hh; simpa [Region.linearise.go, opsH] using hh.2
  | succ fuel ih =>
    intro t listed e h hh
    obtain ⟨h₀, h₁⟩ := hh
    simp only [Region.linearise.go]
    change opsH P ops K ((match (Region.ready md ops listed)[t % (Region.ready md ops listed).length]? with
      | some i => Region.linearise.go md ops fuel (t / (Region.ready md ops listed).length) (listed.setIfInBounds i true) [i]
      | none => [].reverse).filterMap (ops[·]?)) e h
    cases hi : (Region.ready md ops listed)[t % (Region.ready md ops listed).length]? with
    | none =>
      have hnil : Region.ready md ops listed = [] := by
        cases hr : Region.ready md ops listed with
        | nil => rfl
        | cons x xs =>
          rw [hr] at hi
          have hlt : t % (x :: xs).length < (x :: xs).length := Nat.mod_lt _ (by simp)
          simp at hi
          simp at hlt
          omega
      simpa [opsH] using h₀ hnil
    | some i =>
      simp only []
      rw [linearise_go_acc, List.reverse_singleton, List.singleton_append, opsH_opI]
      exact opI_mono (fun e h hh => ih _ _ e h hh.2) (h₁ i (List.mem_of_getElem? hi))

theorem drawH_of_any {C : Heap → Prop} {brk : Nat → Bool} {e : Env} {h : Heap} (hm : P.follows .mixedOrders = true)
    (hh : anyH P .any ops C brk K ops.size (Array.replicate ops.size false) e h) : drawH P ops K e h := by
  intro t
  simp only [Region.schedule, hm, Bool.true_or, if_true]
  exact anyH_sound ops.size t _ e h hh

/-- One value, in every heap of the class, the heap as it was. -/
def quietIn (P : Program) (D : Heap → Prop) (ρ : Operand → Value) (o : Oper) (v : Value) : Prop := ∀ h, D h → opH P ρ o (fun u h' => u = v ∧ h' = h) h

def StabE (P : Program) (ops : Array Oper) (D : Heap → Prop) (o : Oper) (v : Value) (e : Env) : Prop :=
  (Region.wanted o (yieldE ops e) = true ∧ quietIn P D (evalE e) o v) ∨ (Region.wanted o (yieldE ops e) = false ∧ v = undef)

theorem evalE_upd {e : Env} {dst : Option Tmp} {v : Value} {x : Operand} (h : ∀ d, dst = some d → x ≠ .tmp d) : evalE (updE e dst v) x = evalE e x := by
  cases dst with
  | none => rfl
  | some d =>
    cases x with
    | tmp t =>
      have : t ≠ d := fun q => h d rfl (q ▸ rfl)
      show (if t = d then v else e t) = e t
      rw [if_neg this]
    | _ => rfl

theorem execOp_upd (o : Oper) (hs : ∀ cs b, o.op ≠ .select cs b) (e : Env) (dst : Option Tmp) (v : Value) (h : ∀ d, dst = some d → d ∉ o.looksAt ops) :
    execOp (evalE (updE e dst v)) o = execOp (evalE e) o :=
  execOp_congr o hs fun x hx => evalE_upd fun d hd hxe => h d hd (by
    subst hxe
    simp only [Oper.looksAt, List.mem_append, List.mem_filterMap]
    exact .inl ⟨.tmp d, by simpa using hx, rfl⟩)

theorem wanted_upd (o : Oper) (e : Env) (dst : Option Tmp) (v : Value) (h : ∀ d, dst = some d → d ∉ o.looksAt ops) :
    Region.wanted o (yieldE ops (updE e dst v)) = Region.wanted o (yieldE ops e) := by
  unfold Region.wanted
  cases hg : o.guard with
  | none => rfl
  | some g =>
    obtain ⟨j, b⟩ := g
    dsimp only
    have : yieldE ops (updE e dst v) j = yieldE ops e j := by
      unfold yieldE
      cases hj : (ops[j]?).bind (·.dst) with
      | none => rfl
      | some t =>
        dsimp only
        cases dst with
        | none => rfl
        | some d =>
          have hne : t ≠ d := fun q => h d rfl (by
            subst q
            simp [Oper.looksAt, hg, hj])
          have : updE e (some d) v t = e t := by show (if t = d then v else e t) = _; rw [if_neg hne]
          rw [this]
    rw [this]

theorem updE_comm (e : Env) {x y : Option Tmp} (v u : Value) (h : ∀ d, x = some d → y ≠ some d) : updE (updE e x v) y u = updE (updE e y u) x v := by
  cases x with
  | none => cases y <;> rfl
  | some d =>
    cases y with
    | none => rfl
    | some c =>
      have hne : d ≠ c := fun q => h d rfl (q ▸ rfl)
      funext t
      simp only [updE]
      by_cases h1 : t = c
      · subst h1
        have hd : ¬ t = d := fun q => hne q.symm
        simp [hd]
      · simp [h1]

theorem StabE.of_same {D : Heap → Prop} {o : Oper} {v : Value} {e e' : Env} (hy : StabE P ops D o v e) (he : execOp (evalE e') o = execOp (evalE e) o)
    (hw : Region.wanted o (yieldE ops e') = Region.wanted o (yieldE ops e)) : StabE P ops D o v e' := by
  unfold StabE quietIn opH at *
  rw [he, hw]
  exact hy

theorem StabE.opI {D : Heap → Prop} {i : Nat} {o : Oper} {v : Value} {e : Env} {h : Heap} (hi : ops[i]? = some o) (hy : StabE P ops D o v e) (hD : D h) {K : Env → Heap → Prop}
    (hk : K (updE e o.dst v) h) : opI P ops i K e h := by
  unfold H.opI
  rw [hi]
  dsimp only
  rcases hy with ⟨hw, hv⟩ | ⟨hw, rfl⟩
  · rw [if_pos hw]
    exact opH_mono (hv h hD) fun u h' ⟨hu, hh⟩ => by subst hu; subst hh; exact hk
  · rw [if_neg (by rw [hw]; simp)]
    exact hk

theorem opI_put {D : Heap → Prop} {j : Nat} {oi oj : Oper} {v : Value} (hj : ops[j]? = some oj) (hap : oi.apart ops oj = true)
    (hsi : ∀ cs b, oi.op ≠ .select cs b) (hsj : ∀ cs b, oj.op ≠ .select cs b) {K : Env → Heap → Prop} {e : Env} {h : Heap}
    (hy : StabE P ops D oi v e) (hh : opI P ops j K (updE e oi.dst v) h) :
    opI P ops j (fun e' h' => StabE P ops D oi v e' ∧ K (updE e' oi.dst v) h') e h := by
  obtain ⟨h1, h2, h3⟩ := Oper.apart_spec hap
  have keep : ∀ u, StabE P ops D oi v (updE e oj.dst u) := fun u =>
    hy.of_same (execOp_upd oi hsi e oj.dst u h3) (wanted_upd oi e oj.dst u h3)
  unfold opI at *
  rw [hj] at hh ⊢
  dsimp only at hh ⊢
  rw [wanted_upd oj e oi.dst v h1] at hh
  split
  · rename_i hw
    rw [if_pos hw] at hh
    unfold opH at hh ⊢
    rw [execOp_upd oj hsj e oi.dst v h1] at hh
    exact opH_mono (o := oj) (ρ := evalE e) hh fun u h' hk => ⟨keep u, by rw [← updE_comm e v u h2]; exact hk⟩
  · rename_i hw
    rw [if_neg hw] at hh
    exact ⟨keep _, by rw [← updE_comm e v undef h2]; exact hh⟩

/-- What reads may be taken first. -/
theorem anyH_first {C : Heap → Prop} {brk : Nat → Bool} {D : Heap → Prop} {i : Nat} {oi : Oper} {v : Value} (hi : ops[i]? = some oi)
    (hsel : ∀ (j : Nat) (o : Oper) cs b, ops[j]? = some o → o.op ≠ .select cs b)
    (hD : (∀ h, D h) ∨ (D = C ∧ ∀ j oj, ops[j]? = some oj → j ≠ i → brk j = true → ∃ x ∈ oj.after, Region.binds md x = true ∧ x.on = i)) :
    ∀ (fuel : Nat) (listed : Array Bool) (e : Env) (h : Heap),
      (∀ j oj, ops[j]? = some oj → j ≠ i → listed.getD j true = false → (∀ x ∈ oj.after, Region.binds md x = true → x.on ≠ i) → oi.apart ops oj = true) →
      i ∈ Region.ready md ops listed → StabE P ops D oi v e → D h →
      anyH P md ops C brk K fuel (listed.setIfInBounds i true) (updE e oi.dst v) h → anyH P md ops C brk K (fuel + 1) listed e h := by
  intro fuel
  induction fuel with
  | zero =>
    intro listed e h _ hr hy hDh H
    refine ⟨fun h => (by rw [h] at hr; cases hr), fun j hj => ?_⟩
    by_cases hji : j = i
    · subst hji; exact hy.opI hi hDh ⟨.inr id, H⟩
    · have := ready_mono hj hji
      rw [H.1] at this
      cases this
  | succ fuel ih =>
    intro listed e h hfree hr hy hDh H
    refine ⟨fun h => (by rw [h] at hr; cases hr), fun j hj => ?_⟩
    by_cases hji : j = i
    · subst hji; exact hy.opI hi hDh ⟨.inr id, H⟩
    · have h1 := H.2 j (ready_mono hj hji)
      obtain ⟨hjun, oj, hoj, hall⟩ := mem_ready.1 hj
      have hnot : ∀ x ∈ oj.after, Region.binds md x = true → x.on ≠ i := fun x hx hb heq => by
        have h1 := hall x hx hb
        have h0 := (mem_ready.1 hr).1
        rw [heq] at h1
        rcases Nat.lt_or_ge i listed.size with h' | h'
        · simp [h'] at h0 h1; rw [h0] at h1; cases h1
        · simp [Array.getElem?_eq_none h'] at h1
      have h2 := opI_put hoj (hfree j oj hoj hji hjun hnot) (fun cs b => hsel i oi cs b hi) (fun cs b => hsel j oj cs b hoj) hy h1
      have hfree' : ∀ k ok, ops[k]? = some ok → k ≠ i → (listed.setIfInBounds j true).getD k true = false →
          (∀ x ∈ ok.after, Region.binds md x = true → x.on ≠ i) → oi.apart ops ok = true := fun k ok hk hki hun hno => by
        refine hfree k ok hk hki ?_ hno
        by_cases hjk : j = k
        · subst hjk; exact hjun
        · rw [getD_set_ne true hjk] at hun; exact hun
      refine opI_mono (fun e' h' h3 => ?_) h2
      obtain ⟨hst, hbc, hrest⟩ := h3
      have hDh' : D h' := by
        rcases hD with hall' | ⟨hDC, hwait⟩
        · exact hall' h'
        · rcases hbc with hb | hc
          · obtain ⟨x, hx, hxb, hxo⟩ := hwait j oj hoj hji hb
            exact (hnot x hx hxb hxo).elim
          · subst hDC; exact hc hDh
      refine ⟨hbc, ih (listed.setIfInBounds j true) e' h' hfree' (ready_mono hr (Ne.symm hji)) hst hDh' ?_⟩
      rw [Array.setIfInBounds_comm _ _ hji]
      exact hrest

/-- The order in which a region is walked: what reads first, what acts in each order that is left. -/
inductive Tree where
  | done
  | read (i : Nat) (mem : Bool) (t : Tree)
  | act (i : Nat) (brk : Bool) (t : Tree)
  | act2 (i : Nat) (bi : Bool) (t : Tree) (j : Nat) (bj : Bool) (u : Tree)

def Tree.mems : Tree → List Nat
  | .done => []
  | .read i m t => if m then i :: t.mems else t.mems
  | .act _ _ t => t.mems
  | .act2 _ _ t _ _ u => t.mems ++ u.mems

def brkOf : Tree → Nat → Bool
  | .done, _ => false
  | .read _ _ t, k => brkOf t k
  | .act i b t, k => (b && i == k) || brkOf t k
  | .act2 i b t j c u, k => (b && i == k) || (c && j == k) || brkOf t k || brkOf u k

/-- Is this tree one of the region's? -/
def treeOk (md : Region.Mode) (ops : Array Oper) : Tree → Array Bool → Nat → Bool
  | .done, listed, n => (n == 0) && (Region.ready md ops listed).isEmpty
  | .read i _ t, listed, n => n != 0 && (Region.ready md ops listed).contains i && Region.free md ops listed i && treeOk md ops t (listed.setIfInBounds i true) (n - 1)
  | .act i _ t, listed, n => n != 0 && (Region.ready md ops listed) == [i] && treeOk md ops t (listed.setIfInBounds i true) (n - 1)
  | .act2 i _ t j _ u, listed, n => n != 0 && (Region.ready md ops listed) == [i, j] && treeOk md ops t (listed.setIfInBounds i true) (n - 1) && treeOk md ops u (listed.setIfInBounds j true) (n - 1)

/-- Whoever ends the class waits for each read of memory. -/
def brkOk (md : Region.Mode) (ops : Array Oper) (t : Tree) : Bool :=
  (List.range ops.size).all fun j => !(brkOf t j) || t.mems.all fun i => i == j || ((ops[j]?).map fun o => o.after.any fun x => Region.binds md x && x.on == i).getD false

def regionOk (ops : Array Oper) (t : Tree) : Bool := Region.noSelect ops && treeOk .any ops t (Array.replicate ops.size false) ops.size && brkOk .any ops t

/-- A value that a read yields, whatever the heap of a class; what follows takes it. -/
def rQ (F : (Value → Heap → Prop) → Heap → Prop) (D : Heap → Prop) (h : Heap) (N : Value → Prop) : Prop := ∃ v, (∀ x, (x = h ∨ D x) → F (fun u y => u = v ∧ y = x) x) ∧ N v
def rdH (P : Program) (D : Heap → Prop) (ρ : Operand → Value) (o : Oper) (h : Heap) (N : Value → Prop) : Prop := rQ (fun K x => opH P ρ o K x) D h N

theorem rQ_val (v : Value) (D : Heap → Prop) (h : Heap) (N : Value → Prop) : rQ (fun K x => K v x) D h N = N v := by
  apply propext
  constructor
  · rintro ⟨u, hu, hn⟩
    obtain ⟨rfl, _⟩ := hu h (.inl rfl)
    exact hn
  · exact fun hn => ⟨v, fun x _ => ⟨rfl, rfl⟩, hn⟩
theorem rQ_and (c : Prop) (F : (Value → Heap → Prop) → Heap → Prop) (D : Heap → Prop) (h : Heap) (N : Value → Prop) : rQ (fun K x => c ∧ F K x) D h N = (c ∧ rQ (fun K x => F K x) D h N) := by
  apply propext
  constructor
  · rintro ⟨u, hu, hn⟩
    exact ⟨(hu h (.inl rfl)).1, u, fun x hx => (hu x hx).2, hn⟩
  · rintro ⟨hc, u, hu, hn⟩
    exact ⟨u, fun x hx => ⟨hc, hu x hx⟩, hn⟩
theorem rQ_oH (α : Type) (f : Heap → Option α) (G : α → (Value → Heap → Prop) → Heap → Prop) (D : Heap → Prop) (h : Heap) (N : Value → Prop)
    (hD : ∀ x, D x → f x = f h) : rQ (fun K x => oH (f x) fun v => G v K x) D h N = oH (f h) fun v => rQ (fun K x => G v K x) D h N := by
  cases hv : f h with
  | none =>
    apply propext
    constructor
    · rintro ⟨u, hu, hn⟩
      have h0 := hu h (.inl rfl)
      simp only [hv] at h0
      exact h0.elim
    · exact fun hh => hh.elim
  | some v =>
  rw [oH_some]
  replace hD : ∀ x, D x → f x = some v := fun x hx => (hD x hx).trans hv
  apply propext
  constructor
  · rintro ⟨u, hu, hn⟩
    refine ⟨u, fun x hx => ?_, hn⟩
    have : f x = some v := by
      rcases hx with rfl | hx
      · exact hv
      · exact hD x hx
    have h1 := hu x hx
    simp only [this, oH_some] at h1
    exact h1
  · rintro ⟨u, hu, hn⟩
    refine ⟨u, fun x hx => ?_, hn⟩
    have : f x = some v := by
      rcases hx with rfl | hx
      · exact hv
      · exact hD x hx
    simp only [this, oH_some]
    exact hu x hx
/-- At one heap alone. -/
theorem rQ_one (F : (Value → Heap → Prop) → Heap → Prop) (h : Heap) (N : Value → Prop) : rQ F (fun x => x = h) h N = ∃ v, F (fun u y => u = v ∧ y = h) h ∧ N v := by
  apply propext
  constructor
  · rintro ⟨u, hu, hn⟩
    exact ⟨u, hu h (.inl rfl), hn⟩
  · rintro ⟨u, hu, hn⟩
    exact ⟨u, fun x hx => by
      obtain rfl : x = h := by rcases hx with h1 | h1 <;> exact h1
      exact hu, hn⟩

def treeH (P : Program) (ops : Array Oper) (C : Heap → Prop) (K : Env → Heap → Prop) : Tree → Env → Heap → Prop
  | .done, e, h => K e h
  | .read i m t, e, h => match ops[i]? with
    | none => False
    | some o => if Region.wanted o (yieldE ops e) = true
      then (if m then C h ∧ rdH P C (evalE e) o h (fun v => treeH P ops C K t (updE e o.dst v) h) else rdH P (fun _ => True) (evalE e) o h (fun v => treeH P ops C K t (updE e o.dst v) h))
      else treeH P ops C K t (updE e o.dst undef) h
  | .act i b t, e, h => match ops[i]? with
    | none => False
    | some o => if Region.wanted o (yieldE ops e) = true
      then opH P (evalE e) o (fun v h' => (b = true ∨ (C h → C h')) ∧ treeH P ops C K t (updE e o.dst v) h') h
      else treeH P ops C K t (updE e o.dst undef) h
  | .act2 i b t j c u, e, h => (match ops[i]? with
    | none => False
    | some o => if Region.wanted o (yieldE ops e) = true
      then opH P (evalE e) o (fun v h' => (b = true ∨ (C h → C h')) ∧ treeH P ops C K t (updE e o.dst v) h') h
      else treeH P ops C K t (updE e o.dst undef) h) ∧ (match ops[j]? with
    | none => False
    | some o => if Region.wanted o (yieldE ops e) = true
      then opH P (evalE e) o (fun v h' => (c = true ∨ (C h → C h')) ∧ treeH P ops C K u (updE e o.dst v) h') h
      else treeH P ops C K u (updE e o.dst undef) h)

theorem anyH_of_tree {C : Heap → Prop} {brk : Nat → Bool} {ms : List Nat} (hsel : Region.noSelect ops = true)
    (hbrk : ∀ j oj, ops[j]? = some oj → brk j = true → ∀ i ∈ ms, i ≠ j → ∃ x ∈ oj.after, Region.binds md x = true ∧ x.on = i) :
    ∀ (t : Tree) (n : Nat) (listed : Array Bool) (e : Env) (h : Heap), treeOk md ops t listed n = true → (∀ i ∈ t.mems, i ∈ ms) → (∀ i, brkOf t i = true → brk i = true) →
      treeH P ops C K t e h → anyH P md ops C brk K n listed e h
  | .done, n, listed, e, h, hok, _, _, hh => by
    simp only [treeOk, Bool.and_eq_true, beq_iff_eq, List.isEmpty_iff] at hok
    obtain ⟨rfl, hr⟩ := hok
    exact ⟨hr, hh⟩
  | .read i m t, n, listed, e, h, hok, hms, hb, hh => by
    simp only [treeOk, Bool.and_eq_true, bne_iff_ne, ne_eq, List.contains_iff_mem] at hok
    obtain ⟨⟨⟨hn, hr⟩, hf⟩, hok⟩ := hok
    obtain ⟨n, rfl⟩ : ∃ k, n = k + 1 := ⟨n - 1, by omega⟩
    simp only [treeH] at hh
    cases ho : ops[i]? with
    | none => rw [ho] at hh; exact hh.elim
    | some o =>
      rw [ho] at hh
      dsimp only at hh
      have hb' : ∀ i, brkOf t i = true → brk i = true := fun k hk => hb k hk
      by_cases hw : Region.wanted o (yieldE ops e) = true
      · rw [if_pos hw] at hh
        cases m with
        | true =>
          rw [if_pos rfl] at hh
          obtain ⟨hC, v, hq, hN⟩ := hh
          have hq : quietIn P C (evalE e) o v := fun x hx => hq x (.inr hx)
          refine anyH_first (D := C) ho (Region.noSelect_spec hsel) (.inr ⟨rfl, fun j oj hj hne hbj => hbrk j oj hj hbj i (hms i (by simp [Tree.mems])) (Ne.symm hne)⟩) n listed e h (Region.free_spec ho hf) hr (.inl ⟨hw, hq⟩) hC ?_
          exact anyH_of_tree hsel hbrk t n _ _ _ (by simpa using hok) (fun k hk => hms k (by simp [Tree.mems, hk])) hb' hN
        | false =>
          rw [if_neg (by simp)] at hh
          obtain ⟨v, hq, hN⟩ := hh
          have hq : quietIn P (fun _ => True) (evalE e) o v := fun x hx => hq x (.inr hx)
          refine anyH_first (D := fun _ => True) ho (Region.noSelect_spec hsel) (.inl fun _ => trivial) n listed e h (Region.free_spec ho hf) hr (.inl ⟨hw, hq⟩) trivial ?_
          exact anyH_of_tree hsel hbrk t n _ _ _ (by simpa using hok) (fun k hk => hms k (by simp [Tree.mems, hk])) hb' hN
      · rw [if_neg hw] at hh
        refine anyH_first (D := fun _ => True) (v := undef) ho (Region.noSelect_spec hsel) (.inl fun _ => trivial) n listed e h (Region.free_spec ho hf) hr (.inr ⟨by simpa using hw, rfl⟩) trivial ?_
        exact anyH_of_tree hsel hbrk t n _ _ _ (by simpa using hok) (fun k hk => hms k (by cases m <;> simp [Tree.mems, hk])) hb' hh
  | .act i b t, n, listed, e, h, hok, hms, hb, hh => by
    simp only [treeOk, Bool.and_eq_true, bne_iff_ne, ne_eq, beq_iff_eq] at hok
    obtain ⟨⟨hn, hr⟩, hok⟩ := hok
    obtain ⟨n, rfl⟩ : ∃ k, n = k + 1 := ⟨n - 1, by omega⟩
    refine ⟨fun h0 => (by rw [hr] at h0; cases h0), fun k hk => ?_⟩
    rw [hr] at hk
    obtain rfl : k = i := by simpa using hk
    have hb' : ∀ i, brkOf t i = true → brk i = true := fun k hk => hb k (by simp [brkOf, hk])
    simp only [treeH] at hh
    unfold opI
    cases ho : ops[k]? with
    | none => rw [ho] at hh; exact hh.elim
    | some o =>
      rw [ho] at hh
      dsimp only at hh ⊢
      by_cases hw : Region.wanted o (yieldE ops e) = true
      · rw [if_pos hw] at hh ⊢
        refine opH_mono hh fun v h' hv => ⟨hv.1.imp (fun hbt => hb k (by simp [brkOf, hbt])) id, ?_⟩
        exact anyH_of_tree hsel hbrk t n _ _ _ (by simpa using hok) (fun k hk => hms k (by simp [Tree.mems, hk])) hb' hv.2
      · rw [if_neg hw] at hh ⊢
        exact ⟨.inr id, anyH_of_tree hsel hbrk t n _ _ _ (by simpa using hok) (fun k hk => hms k (by simp [Tree.mems, hk])) hb' hh⟩
  | .act2 i b t j c u, n, listed, e, h, hok, hms, hb, hh => by
    simp only [treeOk, Bool.and_eq_true, bne_iff_ne, ne_eq, beq_iff_eq] at hok
    obtain ⟨⟨⟨hn, hr⟩, hok⟩, hok2⟩ := hok
    obtain ⟨n, rfl⟩ : ∃ k, n = k + 1 := ⟨n - 1, by omega⟩
    refine ⟨fun h0 => (by rw [hr] at h0; cases h0), fun k hk => ?_⟩
    rw [hr] at hk
    have hbt : ∀ i, brkOf t i = true → brk i = true := fun k hk => hb k (by simp [brkOf, hk])
    have hbu : ∀ i, brkOf u i = true → brk i = true := fun k hk => hb k (by simp [brkOf, hk])
    simp only [treeH] at hh
    obtain ⟨h1, h2⟩ := hh
    have key : ∀ (k : Nat) (b : Bool) (t : Tree), (b = true → brk k = true) → (∀ i, brkOf t i = true → brk i = true) → (∀ i ∈ t.mems, i ∈ ms) →
        treeOk md ops t (listed.setIfInBounds k true) n = true → (match ops[k]? with
          | none => False
          | some o => if Region.wanted o (yieldE ops e) = true
            then opH P (evalE e) o (fun v h' => (b = true ∨ (C h → C h')) ∧ treeH P ops C K t (updE e o.dst v) h') h
            else treeH P ops C K t (updE e o.dst undef) h) →
        (∀ (listed : Array Bool) (e : Env) (h : Heap), treeOk md ops t listed n = true → treeH P ops C K t e h → anyH P md ops C brk K n listed e h) →
        opI P ops k (fun e' h' => (brk k = true ∨ (C h → C h')) ∧ anyH P md ops C brk K n (listed.setIfInBounds k true) e' h') e h := by
      intro k b t hbk hbt hmt hok hh rec
      unfold opI
      cases ho : ops[k]? with
      | none => rw [ho] at hh; exact hh.elim
      | some o =>
        rw [ho] at hh
        dsimp only at hh ⊢
        by_cases hw : Region.wanted o (yieldE ops e) = true
        · rw [if_pos hw] at hh ⊢
          exact opH_mono hh fun v h' hv => ⟨hv.1.imp hbk id, rec _ _ _ hok hv.2⟩
        · rw [if_neg hw] at hh ⊢
          exact ⟨.inr id, rec _ _ _ hok hh⟩
    have hk' : k = i ∨ k = j := by simpa using hk
    rcases hk' with rfl | rfl
    · exact key k b t (fun hbk => hb k (by simp [brkOf, hbk])) hbt (fun k hk => hms k (by simp [Tree.mems, hk])) (by simpa using hok) h1
        (fun l e h hl ht => anyH_of_tree hsel hbrk t n l e h hl (fun k hk => hms k (by simp [Tree.mems, hk])) hbt ht)
    · exact key k c u (fun hbk => hb k (by simp [brkOf, hbk])) hbu (fun k hk => hms k (by simp [Tree.mems, hk])) (by simpa using hok2) h2
        (fun l e h hl ht => anyH_of_tree hsel hbrk u n l e h hl (fun k hk => hms k (by simp [Tree.mems, hk])) hbu ht)

theorem drawH_of_tree (t : Tree) (C : Heap → Prop) {e : Env} {h : Heap} (hm : P.follows .mixedOrders = true) (hok : regionOk ops t = true) (hh : treeH P ops C K t e h) : drawH P ops K e h := by
  unfold regionOk at hok
  simp only [Bool.and_eq_true] at hok
  obtain ⟨⟨hs, ht⟩, hb⟩ := hok
  refine drawH_of_any (C := C) (brk := brkOf t) hm (anyH_of_tree (ms := t.mems) hs ?_ t _ _ _ _ ht (fun _ h => h) (fun _ h => h) hh)
  intro j oj hj hbj i hi hne
  unfold brkOk at hb
  rw [List.all_eq_true] at hb
  have hjlt : j < ops.size := (Array.getElem?_eq_some_iff.1 hj).1
  have := hb j (by simpa using hjlt)
  simp only [hbj, Bool.not_true, Bool.false_or, List.all_eq_true, Bool.or_eq_true, beq_iff_eq] at this
  rcases this i hi with h1 | h1
  · exact (hne h1).elim
  · rw [hj] at h1
    simp only [Option.map_some, Option.getD_some, Array.any_eq_true'] at h1
    obtain ⟨x, hx, hx2⟩ := h1
    simp only [Bool.and_eq_true, beq_iff_eq] at hx2
    exact ⟨x, hx, hx2.1, hx2.2⟩
theorem drawH_reads (t : Tree) {e : Env} {h : Heap} (hm : P.follows .mixedOrders = true) (hok : regionOk ops t = true) (hh : treeH P ops (fun x => x = h) K t e h) : drawH P ops K e h :=
  drawH_of_tree t _ hm hok hh

section
variable {C : Heap → Prop} {e : Env} {h : Heap}
theorem tree_done : treeH P ops C K .done e h = K e h := rfl
def guardE (ops : Array Oper) (g : Option (Nat × Bool)) (e : Env) (A B : Prop) : Prop := match g with | none => A | some (j, b) => if yieldE ops e j = some b then A else B
theorem guardE_none (A B : Prop) : guardE ops none e A B = A := rfl
theorem guardE_some (j : Nat) (b : Bool) (A B : Prop) : guardE ops (some (j, b)) e A B = if yieldE ops e j = some b then A else B := rfl
theorem guardE_eq (o : Oper) (A B : Prop) : (if Region.wanted o (yieldE ops e) = true then A else B) = guardE ops o.guard e A B := by
  unfold guardE Region.wanted
  cases o.guard with
  | none => simp
  | some g => simp
def guardO (ops : Array Oper) (o : Oper) (e : Env) (A B : Prop) : Prop := guardE ops o.guard e A B
theorem guardO_none (d : Option Tmp) (op : Op) (ty : TypeId) (ps : String) (af : Array Edge) (A B : Prop) : guardO ops ⟨d, op, ty, ps, af, none⟩ e A B = A := rfl
theorem guardO_some (d : Option Tmp) (op : Op) (ty : TypeId) (ps : String) (af : Array Edge) (j : Nat) (b : Bool) (A B : Prop) : guardO ops ⟨d, op, ty, ps, af, some (j, b)⟩ e A B = if yieldE ops e j = some b then A else B := rfl
theorem guardO_some' (d : Option Tmp) (op : Op) (ty : TypeId) (ps : String) (af : Array Edge) (j : Nat) (b : Bool) (A B : Prop) : guardO ops ⟨d, op, ty, ps, af, some (j, b)⟩ e A B = @iteG (yieldE ops e j) b ⟨A⟩ ⟨B⟩ := rfl
theorem tree_read (i : Nat) (m : Bool) (t : Tree) : treeH P ops C K (.read i m t) e h = oH (ops[i]?) fun o => guardO ops o e
    (if m = true then C h ∧ rdH P C (evalE e) o h (fun v => treeH P ops C K t (updE e o.dst v) h) else rdH P (fun _ => True) (evalE e) o h (fun v => treeH P ops C K t (updE e o.dst v) h))
    (treeH P ops C K t (updE e o.dst undef) h) := by
  simp only [treeH]
  cases ops[i]? with
  | none => rfl
  | some o => simp only [oH_some, guardE_eq, guardO]
theorem tree_act (i : Nat) (b : Bool) (t : Tree) : treeH P ops C K (.act i b t) e h = oH (ops[i]?) fun o => guardO ops o e
    (opH P (evalE e) o (fun v h' => (b = true ∨ (C h → C h')) ∧ treeH P ops C K t (updE e o.dst v) h') h)
    (treeH P ops C K t (updE e o.dst undef) h) := by
  simp only [treeH]
  cases ops[i]? with
  | none => rfl
  | some o => simp only [oH_some, guardE_eq, guardO]
theorem tree_act2 (i : Nat) (b : Bool) (t : Tree) (j : Nat) (c : Bool) (u : Tree) : treeH P ops C K (.act2 i b t j c u) e h = ((oH (ops[i]?) fun o => guardO ops o e
    (opH P (evalE e) o (fun v h' => (b = true ∨ (C h → C h')) ∧ treeH P ops C K t (updE e o.dst v) h') h)
    (treeH P ops C K t (updE e o.dst undef) h)) ∧ (oH (ops[j]?) fun o => guardO ops o e
    (opH P (evalE e) o (fun v h' => (c = true ∨ (C h → C h')) ∧ treeH P ops C K u (updE e o.dst v) h') h)
    (treeH P ops C K u (updE e o.dst undef) h))) := by
  simp only [treeH]
  cases ops[i]? <;> cases ops[j]? <;> simp only [oH_some, oH_none, guardE_eq, guardO]
end
end
end Go.H
