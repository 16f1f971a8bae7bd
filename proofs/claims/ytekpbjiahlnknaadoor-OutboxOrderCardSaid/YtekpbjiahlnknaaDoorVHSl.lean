/- Slices in memory: those that are only read, and those that are the code's own. Its conditions: none. -/
import Derived.Test.YtekpbjiahlnknaaDoorVHEq
namespace Go.H
set_option linter.unusedVariables false

/-- The block that a value points to. -/
def blk : Value → List Nat
  | .slice (some a) _ _ => [a.block]
  | .pointer (some a) => [a.block]
  | _ => []

/-- What stands at an address reads as these cells. -/
def Rd (h : Heap) (a : Option Addr) (c : List Value) : Prop :=
  c = [] ∨ ∃ b o cs t f, a = some ⟨b, o, none⟩ ∧ h[b]? = some (.cells cs t f) ∧ ∀ i, i < c.length → cs[o + i]? = c[i]?

theorem objCell_cells (o : Nat) (c : Array Value) (t : TypeId) (f : Nat × Nat) : objCell o (.cells c t f) = c[o]? := rfl

theorem Rd.nil (h : Heap) (a : Option Addr) : Rd h a [] := .inl rfl
theorem Rd.lt {h : Heap} {a : Addr} {c : List Value} (r : Rd h (some a) c) (hc : c ≠ []) : a.block < h.size := by
  rcases r with r | ⟨b, o, cs, t, f, e, hb, _⟩
  · exact absurd r hc
  · cases e; exact lt_of_some hb
theorem Rd.keep {h h' : Heap} {a : Option Addr} {c : List Value} {fp : List Nat} (r : Rd h a c) (k : Keep h h' fp) (hn : ∀ x, a = some x → x.block ∉ fp) : Rd h' a c := by
  rcases r with r | ⟨b, o, cs, t, f, rfl, hb, hc⟩
  · exact .inl r
  · exact .inr ⟨b, o, cs, t, f, rfl, k.get hb (hn _ rfl), hc⟩
theorem Rd.sub {h : Heap} {a : Addr} {c : List Value} (r : Rd h (some a) c) (k m : Nat) : Rd h (some (a.add k)) ((c.drop k).take m) := by
  rcases r with r | ⟨b, o, cs, t, f, e, hb, hc⟩
  · subst r; simp [Rd]
  · cases e
    refine .inr ⟨b, o + k, cs, t, f, by rw [add_none], hb, fun i hi => ?_⟩
    simp only [List.length_take, List.length_drop] at hi
    rw [Nat.add_assoc, hc (k + i) (by omega), List.getElem?_take, if_pos (by omega), List.getElem?_drop]
theorem Rd.take {h : Heap} {a : Option Addr} {c : List Value} (r : Rd h a c) (m : Nat) : Rd h a (c.take m) := by
  rcases r with r | ⟨b, o, cs, t, f, e, hb, hc⟩
  · subst r; simp [Rd]
  · refine .inr ⟨b, o, cs, t, f, e, hb, fun i hi => ?_⟩
    simp only [List.length_take] at hi
    rw [hc i (by omega), List.getElem?_take, if_pos (by omega)]
theorem Rd.read {h : Heap} {a : Addr} {c : List Value} (r : Rd h (some a) c) {k m : Nat} (hk : k + m ≤ c.length) : readCells h (a.add k) m = some ((c.drop k).take m) := by
  cases m with
  | zero => simp [readCells]
  | succ m =>
    rcases r with r | ⟨b, o, cs, t, f, e, hb, hc⟩
    · subst r; simp at hk
    · cases e
      have hsz : o + k + (m + 1) ≤ cs.size := by
        have := hc (k + m) (by omega)
        rw [List.getElem?_eq_getElem (by omega)] at this
        have := (Array.getElem?_eq_some_iff.1 this).1
        omega
      rw [add_none, readCells_eq, hb, Option.bind_some, objCells, if_pos hsz]
      congr 1
      apply List.ext_getElem?
      intro i
      rw [List.getElem?_take, List.getElem?_take]
      split
      · rw [List.getElem?_drop, List.getElem?_drop, Array.getElem?_toList, Nat.add_assoc, hc (k + i) (by omega)]
      · rfl
theorem Rd.cell {h : Heap} {a : Addr} {c : List Value} (r : Rd h (some a) c) {k : Nat} (hk : k < c.length) : cellAt h (a.add k) = c[k]? := by
  rcases r with r | ⟨b, o, cs, t, f, e, hb, hc⟩
  · subst r; simp at hk
  · cases e
    rw [add_none, cellAt_eq, hb, Option.bind_some, objCell_cells, hc k hk]

/-- A slice of len elements of n cells each, which reads as these cells. -/
structure SR (h : Heap) (n : Nat) (v : Value) (len : Nat) (c : List Value) : Prop where
  ex : ∃ a cap, v = .slice a len cap ∧ len ≤ cap ∧ (a = none → cap = 0) ∧ Rd h a c
  len : c.length = len * n

/-- A slice of the code's own: nil, or a part of a block of its elements' type. -/
structure Sl (h : Heap) (e : TypeId) (n : Nat) (v : Value) (len : Nat) (c : List Value) : Prop where
  ex : (v = .slice none 0 0 ∧ len = 0) ∨ ∃ b o cap cells, v = .slice (some ⟨b, o, none⟩) len cap ∧ h[b]? = some (Blk e cells) ∧ o + cap * n ≤ cells.length ∧ len ≤ cap ∧ ∀ i, i < c.length → cells[o + i]? = c[i]?
  len : c.length = len * n

theorem Sl.nil (h : Heap) (e n : Nat) : Sl h e n (.slice none 0 0) 0 [] := ⟨.inl ⟨rfl, rfl⟩, by simp⟩
theorem Sl.sr {h : Heap} {e n : Nat} {v : Value} {len : Nat} {c : List Value} (s : Sl h e n v len c) : SR h n v len c := by
  refine ⟨?_, s.len⟩
  rcases s.ex with ⟨rfl, rfl⟩ | ⟨b, o, cap, cells, rfl, hb, hl, hc, hi⟩
  · refine ⟨none, 0, rfl, Nat.le_refl _, fun _ => rfl, .inl ?_⟩
    have := s.len
    simpa using this
  · refine ⟨_, cap, rfl, hc, fun h => (by cases h), ?_⟩
    by_cases h0 : c = []
    · exact .inl h0
    · exact .inr ⟨b, o, cells.toArray, e, (0, 0), rfl, hb, fun i h => by simpa using hi i h⟩
theorem SR.keep {h h' : Heap} {n : Nat} {v : Value} {len : Nat} {c : List Value} {fp : List Nat} (s : SR h n v len c) (k : Keep h h' fp) (hn : ∀ x ∈ blk v, x ∉ fp) : SR h' n v len c := by
  obtain ⟨⟨a, cap, rfl, h1, h2, h3⟩, hl⟩ := s
  exact ⟨⟨a, cap, rfl, h1, h2, h3.keep k fun x hx => hn _ (by subst hx; simp [blk])⟩, hl⟩
theorem Sl.keep {h h' : Heap} {e n : Nat} {v : Value} {len : Nat} {c : List Value} {fp : List Nat} (s : Sl h e n v len c) (k : Keep h h' fp) (hn : ∀ x ∈ blk v, x ∉ fp) : Sl h' e n v len c := by
  refine ⟨?_, s.len⟩
  rcases s.ex with h1 | ⟨b, o, cap, cells, rfl, hb, hl, hc, hi⟩
  · exact .inl h1
  · exact .inr ⟨b, o, cap, cells, rfl, k.get hb (hn b (by simp [blk])), hl, hc, hi⟩
theorem SR.keep0 {h h' : Heap} {n : Nat} {v : Value} {len : Nat} {c : List Value} (s : SR h n v len c) (k : Keep h h' []) : SR h' n v len c := s.keep k (by simp)
theorem Sl.keep0 {h h' : Heap} {e n : Nat} {v : Value} {len : Nat} {c : List Value} (s : Sl h e n v len c) (k : Keep h h' []) : Sl h' e n v len c := s.keep k (by simp)
theorem SR.lenV {h : Heap} {n : Nat} {v : Value} {len : Nat} {c : List Value} (s : SR h n v len c) : lenV v = some len := by
  obtain ⟨⟨a, cap, rfl, _⟩, _⟩ := s
  rfl
theorem SR.src {h : Heap} {n : Nat} {v : Value} {len : Nat} {c : List Value} (s : SR h n v len c) : srcL h n len v = some c := by
  obtain ⟨⟨a, cap, rfl, h1, h2, h3⟩, hl⟩ := s
  cases a with
  | none =>
    obtain rfl := h2 rfl
    obtain rfl : len = 0 := by omega
    have : c = [] := by simpa using hl
    subst this; rfl
  | some a =>
    have := h3.read (k := 0) (m := len * n) (by omega)
    have h0 : a.add 0 = a := by simp [Addr.add]
    rw [h0] at this
    show readCells h a (len * n) = _
    rw [this, ← hl]
    simp

theorem putL_get : ∀ (l c : List Value) (o i : Nat), o + l.length ≤ c.length → (putL c o l)[i]? = if o ≤ i ∧ i < o + l.length then l[i - o]? else c[i]?
  | [], c, o, i, h => by
    rw [putL, if_neg (by simp only [List.length_nil]; omega)]
  | v :: l, c, o, i, h => by
    simp only [List.length_cons] at h
    rw [putL, putL_get l _ (o + 1) i (by simp; omega)]
    simp only [List.length_cons]
    by_cases h1 : o + 1 ≤ i ∧ i < o + 1 + l.length
    · rw [if_pos h1, if_pos (by omega), show i - o = (i - (o + 1)) + 1 from by omega, List.getElem?_cons_succ]
    · rw [if_neg h1]
      by_cases h2 : i = o
      · subst h2
        rw [if_pos (by omega)]
        simp only [Nat.sub_self, List.getElem?_cons_zero]
        rw [List.getElem?_set_self (by omega)]
      · rw [if_neg (by omega), List.getElem?_set_ne (by omega)]

theorem rep_flat (k n : Nat) (l : List Value) (hl : l.length = n) : (List.replicate k l).flatten.length = k * n := by
  simp [hl]

/-- One slice behind another: in place, or in a block of its own. -/
theorem Sl.ap {P : Program} {K : Value → Heap → Prop} {t u e n : Nat} {z : Value} (hb : elB P t = true) (he : eltT P t = some e) (hz : zeroT P e = some z) (hzn : z.cells.size = n) (hn : n ≠ 0) (hu : intB P u = true)
    {h : Heap} {v : Value} {len : Nat} {c : List Value} (s : Sl h e n v len c) {x : Value} {m : Nat} {l : List Value} (hm : lenV x = some m) (hl : srcL h n m x = some l) (hll : l.length = m * n) (hp : l.all plainV = true)
    {by_ : Nat} (hby : bytesT P e = some by_) (hb0 : by_ ≠ 0) (hsz : (2 * (len + m) + 192) * by_ ≤ 281474976710656)
    (hk : ∀ v' h', Sl h' e n v' (len + m) (c ++ l) → Keep h h' (blk v) → (∀ b ∈ blk v', b ∈ blk v ∨ h.size ≤ b) → K v' h') : apH P t u v x K h := by
  have hold := s.sr.src
  have hlen : c.length = len * n := s.len
  have hbig : len + m < 9223372036854775807 := by
    have : (2 * (len + m) + 192) * 1 ≤ (2 * (len + m) + 192) * by_ := Nat.mul_le_mul_left _ (by omega)
    omega
  have hadd : (len + m) * n = len * n + m * n := Nat.add_mul _ _ _
  have hm0 : l = [] → m = 0 := fun h0 => by
    subst h0
    simp only [List.length_nil] at hll
    rcases Nat.mul_eq_zero.1 hll.symm with h1 | h1
    · exact h1
    · exact absurd h1 hn
  have grown : ∀ (w : Value), blk w = blk w → ∀ cc, len + m ≤ cc → Sl (h.push (Blk e (c ++ l ++ (List.replicate (cc - (len + m)) z.cells.toList).flatten))) e n (.slice (some ⟨h.size, 0, none⟩) (len + m) cc) (len + m) (c ++ l) := fun w _ cc hcc => by
    refine ⟨.inr ⟨h.size, 0, cc, _, rfl, push_new _ _, ?_, hcc, fun i hi => ?_⟩, by rw [List.length_append, hlen, hll, hadd]⟩
    · rw [List.length_append, rep_flat _ n _ (by simpa using hzn), List.length_append, hlen, hll]
      have : cc * n = (len + m) * n + (cc - (len + m)) * n := by rw [← Nat.add_mul]; congr 1; omega
      omega
    · rw [Nat.zero_add, List.getElem?_append_left hi]
  rcases s.ex with ⟨rfl, rfl⟩ | ⟨b, o, cap, cells, rfl, hbb, hcap, hlc, hi⟩
  · refine ap_ok hb he hz hu hm (by rw [hzn]; exact hl) hby hsz hb0 hbig (old := c) (fun _ => by rw [hzn]; exact hold) ?_ ?_ ?_
    · intro _ a' ha; cases ha
    · intro h1 _
      obtain rfl : m = 0 := by omega
      have : l = [] := by simpa using hll
      subst this
      exact hk _ _ (by simpa using s) (Keep.refl _ _) (fun b hb => .inl hb)
    · intro h1 cc hcc
      exact hk _ _ (grown (.slice none 0 0) rfl cc hcc) ((Keep.refl _ _).push _) (fun b hb => .inr (by simp [blk] at hb; omega))
  · refine ap_ok hb he hz hu hm (by rw [hzn]; exact hl) hby hsz hb0 hbig (old := c) (fun _ => by rw [hzn]; exact hold) ?_ ?_ ?_
    · rintro hfit a' ha hne
      cases ha
      refine ⟨hp, ?_⟩
      have hmul : (len + m) * n ≤ cap * n := Nat.mul_le_mul_right _ hfit
      rw [hzn, add_none, wrCells_eq _ _ _ _ _ _ hne, Nat.add_zero]
      refine ⟨hp, ?_, ?_⟩
      · simp only [blkOk, hbb, Option.map_some, objOk_Blk, Option.getD_some, decide_eq_true_eq]
        omega
      · refine hk _ _ ⟨.inr ⟨b, o, cap, putL cells (o + len * n) l, rfl, by rw [hput_same, hbb]; rfl, by rw [putL_length]; exact hcap, hfit, fun i hi' => ?_⟩, by rw [List.length_append, hlen, hll, hadd]⟩ ((Keep.refl _ _).hput (.inl (by simp [blk])) _ _) (fun b hb => .inl hb)
        rw [List.length_append] at hi'
        rw [putL_get _ _ _ _ (by omega)]
        by_cases h1 : i < c.length
        · rw [if_neg (by omega), List.getElem?_append_left h1, hi i h1]
        · rw [if_pos (by omega), List.getElem?_append_right (by omega), hlen]
          congr 1; omega
    · intro hfit h0
      have h00 : l = [] := by
        rcases h0 with h0 | h0
        · cases h0
        · exact h0
      obtain rfl := hm0 h00
      subst h00
      exact hk _ _ (by simpa using s) (Keep.refl _ _) (fun b hb => .inl hb)
    · intro h1 cc hcc
      exact hk _ _ (grown (.slice none 0 0) rfl cc hcc) ((Keep.refl _ _).push _) (fun b hb => .inr (by simp [blk] at hb; omega))

/-- One slice behind another that has no room: a block of its own. -/
theorem SR.ap {P : Program} {K : Value → Heap → Prop} {t u e n : Nat} {z : Value} (hb : elB P t = true) (he : eltT P t = some e) (hz : zeroT P e = some z) (hzn : z.cells.size = n) (hn : n ≠ 0) (hu : intB P u = true)
    {h : Heap} {a : Option Addr} {cap len : Nat} {c : List Value} (s : SR h n (.slice a len cap) len c) {x : Value} {m : Nat} {l : List Value} (hcm : cap < len + m) (hm : Go.H.lenV x = some m) (hl : srcL h n m x = some l) (hll : l.length = m * n)
    {by_ : Nat} (hby : bytesT P e = some by_) (hb0 : by_ ≠ 0) (hsz : (2 * (len + m) + 192) * by_ ≤ 281474976710656)
    (hk : ∀ v' h', Sl h' e n v' (len + m) (c ++ l) → Keep h h' [] → (∀ b ∈ blk v', h.size ≤ b) → K v' h') : apH P t u (.slice a len cap) x K h := by
  have hlen : c.length = len * n := s.len
  have hbig : len + m < 9223372036854775807 := by
    have : (2 * (len + m) + 192) * 1 ≤ (2 * (len + m) + 192) * by_ := Nat.mul_le_mul_left _ (by omega)
    omega
  have hadd : (len + m) * n = len * n + m * n := Nat.add_mul _ _ _
  refine ap_ok hb he hz hu hm (by rw [hzn]; exact hl) hby hsz hb0 hbig (old := c) (fun _ => by rw [hzn]; exact s.src) (fun h => by omega) (fun h => by omega) ?_
  intro _ cc hcc
  refine hk _ _ ⟨.inr ⟨h.size, 0, cc, _, rfl, push_new _ _, ?_, hcc, fun i hi => ?_⟩, by rw [List.length_append, hlen, hll, hadd]⟩ ((Keep.refl _ _).push _) (fun b hb => by simp [blk] at hb; omega)
  · rw [List.length_append, rep_flat _ n _ (by simpa using hzn), List.length_append, hlen, hll]
    have : cc * n = (len + m) * n + (cc - (len + m)) * n := by rw [← Nat.add_mul]; congr 1; omega
    omega
  · rw [Nat.zero_add, List.getElem?_append_left hi]

theorem add_zero' (a : Addr) : a.add 0 = a := by simp [Addr.add]
theorem map_add_zero (a : Option Addr) : (a.map fun x => x.add 0) = a := by cases a <;> simp [add_zero']
theorem SR.cut {h : Heap} {n : Nat} {a : Option Addr} {len cap : Nat} {c : List Value} (s : SR h n (.slice a len cap) len c) {lo hi mx : Nat} (h1 : lo ≤ hi) (h2 : hi ≤ len) (h3 : hi ≤ mx) (h4 : mx ≤ cap) :
    SR h n (.slice (if mx = lo then a else a.map (·.add (lo * n))) (hi - lo) (mx - lo)) (hi - lo) ((c.drop (lo * n)).take ((hi - lo) * n)) := by
  obtain ⟨⟨a', cap', e, g1, g2, g3⟩, hl⟩ := s
  cases e
  have hm1 : (hi - lo) * n + lo * n = hi * n := by rw [← Nat.add_mul]; congr 1; omega
  have hm2 : hi * n ≤ len * n := Nat.mul_le_mul_right _ h2
  refine ⟨⟨_, _, rfl, by omega, ?_, ?_⟩, by rw [List.length_take, List.length_drop]; omega⟩
  · intro hn
    have : a = none := by
      split at hn
      · exact hn
      · simpa using hn
    have := g2 this
    omega
  · split
    · rename_i hml
      have : hi - lo = 0 := by omega
      rw [this]
      simp [Rd]
    · cases a with
      | none =>
        have := g2 rfl
        have : hi - lo = 0 := by omega
        rw [this]
        simp [Rd]
      | some a => exact g3.sub _ _
theorem Sl.cut {h : Heap} {e n : Nat} {a : Option Addr} {len cap : Nat} {c : List Value} (s : Sl h e n (.slice a len cap) len c) {lo hi mx : Nat} (h1 : lo ≤ hi) (h2 : hi ≤ len) (h3 : hi ≤ mx) (h4 : mx ≤ cap) :
    Sl h e n (.slice (if mx = lo then a else a.map (·.add (lo * n))) (hi - lo) (mx - lo)) (hi - lo) ((c.drop (lo * n)).take ((hi - lo) * n)) := by
  have hl := s.len
  have hm1 : (hi - lo) * n + lo * n = hi * n := by rw [← Nat.add_mul]; congr 1; omega
  have hm2 : hi * n ≤ len * n := Nat.mul_le_mul_right _ h2
  refine ⟨?_, by rw [List.length_take, List.length_drop]; omega⟩
  rcases s.ex with ⟨e, rfl⟩ | ⟨b, o, cap', cells, e, hb, hcap, hlc, hi'⟩
  · cases e
    refine .inl ⟨?_, by omega⟩
    have : mx = 0 := by omega
    have : hi = 0 := by omega
    have : lo = 0 := by omega
    subst_vars
    simp
  · cases e
    refine .inr ?_
    split
    · refine ⟨b, o, mx - lo, cells, rfl, hb, ?_, by omega, fun i hi0 => ?_⟩
      · have : (mx - lo) * n ≤ cap * n := Nat.mul_le_mul_right _ (by omega)
        omega
      · rw [List.length_take] at hi0
        have : hi - lo = 0 := by omega
        rw [this] at hi0
        simp at hi0
    · refine ⟨b, o + lo * n, mx - lo, cells, by rw [Option.map_some, add_none], hb, ?_, by omega, fun i hi0 => ?_⟩
      · have : (mx - lo) * n + lo * n = mx * n := by rw [← Nat.add_mul]; congr 1; omega
        have : mx * n ≤ cap * n := Nat.mul_le_mul_right _ h4
        omega
      · rw [List.length_take, List.length_drop] at hi0
        rw [List.getElem?_take, if_pos (by omega), List.getElem?_drop, Nat.add_assoc, hi' _ (by omega)]

theorem hput_push {h : Heap} {b : Nat} (hb : b = h.size) (x : Obj) (o : Nat) (l : List Value) : hput (h.push x) b o l = h.push (objPut o l x) := by
  subst hb
  apply Array.ext_getElem?
  intro i
  rw [hput_get]
  by_cases e : i = h.size
  · subst e; simp
  · rw [if_neg (Ne.symm e), push_get, push_get, if_neg e, if_neg e]
theorem hput_push_old {h : Heap} {b : Nat} (hb : b < h.size) (x : Obj) (o : Nat) (l : List Value) : hput (h.push x) b o l = (hput h b o l).push x := by
  apply Array.ext_getElem?
  intro i
  rw [hput_get, push_get, push_get, hput_get, hput_size]
  by_cases e : b = i
  · subst e; rw [if_pos rfl, if_neg (by omega), if_pos rfl, if_neg (by omega)]
  · rw [if_neg e]
    by_cases e' : i = h.size
    · rw [if_pos e', if_pos e']
    · rw [if_neg e', if_neg e', if_neg e]

/-! Bytes. -/
def u8 (n : Nat) : Value := .int .u8 n
/-- A slice of bytes that is read. -/
def Bs (h : Heap) (v : Value) (l : List Nat) : Prop := SR h 1 v l.length (l.map u8) ∧ ∀ x ∈ l, x < 256
/-- A slice of bytes of the code's own; e is the bytes' type. -/
def Bo (e : TypeId) (h : Heap) (v : Value) (l : List Nat) : Prop := Sl h e 1 v l.length (l.map u8) ∧ ∀ x ∈ l, x < 256

theorem Bo.bs {e : TypeId} {h : Heap} {v : Value} {l : List Nat} (b : Bo e h v l) : Bs h v l := ⟨b.1.sr, b.2⟩
theorem Bs.keep {h h' : Heap} {v : Value} {l : List Nat} {fp : List Nat} (s : Bs h v l) (k : Keep h h' fp) (hn : ∀ x ∈ blk v, x ∉ fp) : Bs h' v l := ⟨s.1.keep k hn, s.2⟩
theorem Bo.keep {e : TypeId} {h h' : Heap} {v : Value} {l : List Nat} {fp : List Nat} (s : Bo e h v l) (k : Keep h h' fp) (hn : ∀ x ∈ blk v, x ∉ fp) : Bo e h' v l := ⟨s.1.keep k hn, s.2⟩
theorem Bs.keep0 {h h' : Heap} {v : Value} {l : List Nat} (s : Bs h v l) (k : Keep h h' []) : Bs h' v l := s.keep k (by simp)
theorem Bo.keep0 {e : TypeId} {h h' : Heap} {v : Value} {l : List Nat} (s : Bo e h v l) (k : Keep h h' []) : Bo e h' v l := s.keep k (by simp)
theorem Bo.nil (e : TypeId) (h : Heap) : Bo e h (.slice none 0 0) [] := ⟨Sl.nil h e 1, by simp⟩
/-- What a walk needs of bytes: where they stand, and each of them. -/
theorem Bs.open {h : Heap} {v : Value} {l : List Nat} (s : Bs h v l) : ∃ a cap, v = .slice a l.length cap ∧ l.length ≤ cap ∧ (a = none → cap = 0) ∧
    (l = [] ∨ ∃ b o cs t f, a = some ⟨b, o, none⟩ ∧ h[b]? = some (.cells cs t f) ∧ ∀ i, i < l.length → cs[o + i]? = some (.int .u8 (l.getD i 0 : Nat))) := by
  obtain ⟨⟨⟨a, cap, rfl, h1, h2, h3⟩, hl⟩, hx⟩ := s
  refine ⟨a, cap, rfl, h1, h2, ?_⟩
  rcases h3 with h3 | ⟨b, o, cs, t, f, e, hb, hc⟩
  · exact .inl (by simpa using h3)
  · refine .inr ⟨b, o, cs, t, f, e, hb, fun i hi => ?_⟩
    rw [hc i (by simpa using hi), List.getElem?_map, List.getElem?_eq_getElem hi]
    simp [u8, List.getD, hi]
theorem Bs.cut {h : Heap} {a : Option Addr} {cap : Nat} {l : List Nat} (s : Bs h (.slice a l.length cap) l) {lo hi mx : Nat} (h1 : lo ≤ hi) (h2 : hi ≤ l.length) (h3 : hi ≤ mx) (h4 : mx ≤ cap) :
    Bs h (.slice (if mx = lo then a else a.map (·.add (lo * 1))) (hi - lo) (mx - lo)) ((l.drop lo).take (hi - lo)) := by
  have := s.1.cut h1 h2 h3 h4
  refine ⟨?_, fun x hx => s.2 x (List.mem_of_mem_drop (List.mem_of_mem_take hx))⟩
  have hl : ((l.drop lo).take (hi - lo)).length = hi - lo := by simp; omega
  rw [hl, List.map_take, List.map_drop]
  simpa using this
theorem Bo.cut {e : TypeId} {h : Heap} {a : Option Addr} {cap : Nat} {l : List Nat} (s : Bo e h (.slice a l.length cap) l) {lo hi mx : Nat} (h1 : lo ≤ hi) (h2 : hi ≤ l.length) (h3 : hi ≤ mx) (h4 : mx ≤ cap) :
    Bo e h (.slice (if mx = lo then a else a.map (·.add (lo * 1))) (hi - lo) (mx - lo)) ((l.drop lo).take (hi - lo)) := by
  have := s.1.cut h1 h2 h3 h4
  refine ⟨?_, fun x hx => s.2 x (List.mem_of_mem_drop (List.mem_of_mem_take hx))⟩
  have hl : ((l.drop lo).take (hi - lo)).length = hi - lo := by simp; omega
  rw [hl, List.map_take, List.map_drop]
  simpa using this
/-- A row of bytes in a block that was made for it. -/
theorem Bo.block {e : TypeId} {h : Heap} {b : Nat} {l : List Nat} (hb : h[b]? = some (Blk e (l.map u8))) (hl : ∀ x ∈ l, x < 256) : Bo e h (.slice (some ⟨b, 0, none⟩) l.length l.length) l :=
  ⟨⟨.inr ⟨b, 0, l.length, l.map u8, rfl, hb, by simp, Nat.le_refl _, fun i _ => by rw [Nat.zero_add]⟩, by simp⟩, hl⟩
theorem u8_plain (l : List Nat) : (l.map u8).all plainV = true := by
  simp [u8, plainV]

attribute [go_sem] objCell_cells
end Go.H
