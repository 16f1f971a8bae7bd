/- A reader of numbers: what each of its calls gives, and leaves. Its conditions: no more than 2^39 bytes. -/
import Derived.Test.YtekpbjiahlnknaaDoorVPrefix
namespace Go.Proofs.Tryd
open Go.H
set_option maxRecDepth 100000
set_option linter.unusedSimpArgs false
set_option linter.unusedVariables false

theorem Blk_inj {t u : TypeId} {l m : List Value} (h : Blk t l = Blk u m) : t = u := by
  unfold Blk at h
  injection h
/-- A reader: its bytes, where it is, what was wrong. -/
structure Rdr (h : Heap) (p : Nat) (l : List Nat) (at_ c : Nat) : Prop where
  ex : ∃ v er, h[p]? = some (Blk 271 [v, .int .i64 at_, er]) ∧ Bo 5 h v l ∧ Eo h er c
  le : at_ ≤ l.length
  lt : l.length ≤ 549755813888

theorem Rdr.keep0 {h h' : Heap} {p : Nat} {l : List Nat} {a c : Nat} (r : Rdr h p l a c) (k : Keep h h' []) : Rdr h' p l a c := by
  obtain ⟨⟨v, er, h1, h2, h3⟩, h4, h5⟩ := r
  exact ⟨⟨v, er, k.get h1 (by simp), h2.keep0 k, h3.keep k⟩, h4, h5⟩
/-- The bytes of a row of a reader's are no reader. -/
theorem Bo.nin {h : Heap} {v : Value} {l : List Nat} (b : Bo 5 h v l) {p : Nat} {t : TypeId} {x : List Value} (hp : h[p]? = some (Blk t x)) (ht : t ≠ 5) : p ∉ blk v := by
  rcases b.1.ex with ⟨rfl, _⟩ | ⟨q, o, cap, cells, rfl, hq, _⟩
  · simp [blk]
  · simp only [blk, List.mem_singleton]
    rintro rfl
    rw [hp] at hq
    exact ht (Blk_inj (Option.some.inj hq))

theorem Read_calls {h : Heap} {v : Value} {l : List Nat} (hv : Bs h v l) (hl : l.length ≤ 549755813888) : CallsH Tryd.prog 115 #[v] h (fun r h' => ∃ p, r = .pointer (some ⟨p, 0, none⟩) ∧ h.size ≤ p ∧ Rdr h' p l 0 0 ∧ Keep h h' []) := by
  refine CallsH.of_code (args := [_]) Tryd.func115 rfl (by kernel_rfl) ?_
  simp -implicitDefEqProofs only [go_sem, ↓reduceIte, Nat.reduceEqDiff, Nat.reduceAdd, Nat.reduceMul, Nat.reduceLT, Nat.reduceLeDiff, reduceCtorEq, Int.reduceLT, Int.reduceLE, Int.reduceToNat, Int.reduceAdd, Int.reduceSub, Int.reduceNeg, Nat.reduceSub, Int.reduceEq, Int.reduceNe, Int.reduceGT, Int.reduceGE]
  refine (Clone_calls hv (by omega)).mono ?_
  rintro r h1 ⟨hr, k1, f1⟩
  obtain ⟨b, cap, rfl, _⟩ := hr.bs.open
  simp -implicitDefEqProofs only [go_sem, ↓reduceIte, Nat.reduceEqDiff, Nat.reduceAdd, Nat.reduceMul, Nat.reduceLT, Nat.reduceLeDiff, reduceCtorEq, Int.reduceLT, Int.reduceLE, Int.reduceToNat, Int.reduceAdd, Int.reduceSub, Int.reduceNeg, Nat.reduceSub, Int.reduceEq, Int.reduceNe, Int.reduceGT, Int.reduceGE, Tryd.results115, List.reduceReplicate, List.flatten_cons, List.flatten_nil, List.cons_append, List.nil_append, List.append_nil, List.length_set]
  have k2 : ∀ o, Keep h1 (h1.push o) [] := fun o => (Keep.refl _ _).push o
  exact ⟨h1.size, rfl, k1.size, ⟨⟨_, .nilIface, push_new _ _, hr.keep0 (k2 _), Eo.nil _⟩, Nat.zero_le _, hl⟩, k1.trans (k2 _)⟩

theorem Err_calls {h : Heap} {p : Nat} {l : List Nat} {a c : Nat} (hr : Rdr h p l a c) : CallsH Tryd.prog 117 #[.pointer (some ⟨p, 0, none⟩)] h (fun r h' => Eo h' r c ∧ h' = h) := by
  obtain ⟨⟨v, er, h1, h2, h3⟩, h4, h5⟩ := hr
  refine CallsH.of_code (args := [_]) Tryd.func117 rfl (by kernel_rfl) ?_
  simp -implicitDefEqProofs only [go_sem, ↓reduceIte, Nat.reduceEqDiff, Nat.reduceAdd, Nat.reduceMul, Nat.reduceLT, Nat.reduceLeDiff, reduceCtorEq, Int.reduceLT, Int.reduceLE, Int.reduceToNat, Int.reduceAdd, Int.reduceSub, Int.reduceNeg, Nat.reduceSub, Int.reduceEq, Int.reduceNe, Int.reduceGT, Int.reduceGE, h1, Tryd.results117]
  exact h3

theorem Left_calls {h : Heap} {p : Nat} {l : List Nat} {a c : Nat} (hr : Rdr h p l a c) : CallsH Tryd.prog 118 #[.pointer (some ⟨p, 0, none⟩)] h (fun r h' => r = .int .i64 ((l.length - a : Nat) : Int) ∧ h' = h) := by
  obtain ⟨⟨v, er, h1, h2, h3⟩, h4, h5⟩ := hr
  obtain ⟨b, cap, rfl, _⟩ := h2.bs.open
  refine CallsH.of_code (args := [_]) Tryd.func118 rfl (by kernel_rfl) ?_
  simp -implicitDefEqProofs only [go_sem, ↓reduceIte, Nat.reduceEqDiff, Nat.reduceAdd, Nat.reduceMul, Nat.reduceLT, Nat.reduceLeDiff, reduceCtorEq, Int.reduceLT, Int.reduceLE, Int.reduceToNat, Int.reduceAdd, Int.reduceSub, Int.reduceNeg, Nat.reduceSub, Int.reduceEq, Int.reduceNe, Int.reduceGT, Int.reduceGE, h1]
  refine drawH_reads (.read 0 true (.read 1 true (.read 2 true (.read 3 true (.read 4 true (.read 5 true (.read 6 true (.read 7 true (.read 8 true (.read 9 true (.read 10 true .done))))))))))) (by kernel_rfl) (by kernel_rfl) ?_
  simp -implicitDefEqProofs only [go_sem, ↓reduceIte, Nat.reduceEqDiff, Nat.reduceAdd, Nat.reduceMul, Nat.reduceLT, Nat.reduceLeDiff, reduceCtorEq, Int.reduceLT, Int.reduceLE, Int.reduceToNat, Int.reduceAdd, Int.reduceSub, Int.reduceNeg, Nat.reduceSub, Int.reduceEq, Int.reduceNe, Int.reduceGT, Int.reduceGE, h1, forall_eq, Tryd.results118]
  rw [w_i64 (by omega) (by omega)]
  congr 1; omega

theorem fail_calls {h : Heap} {p : Nat} {l : List Nat} {a : Nat} (hr : Rdr h p l a 0) (c : Nat) (hc : c ≠ 0) : CallsH Tryd.prog 159 #[.pointer (some ⟨p, 0, none⟩), .int .i64 c] h (fun r h' => Rdr h' p l a c ∧ Keep h h' [p]) := by
  obtain ⟨⟨v, er, h1, h2, h3⟩, h4, h5⟩ := hr
  obtain ⟨_, rfl⟩ | ⟨d, he⟩ := h3
  · refine CallsH.of_code (args := [_, _]) Tryd.func159 rfl (by kernel_rfl) ?_
    simp -implicitDefEqProofs only [go_sem, ↓reduceIte, Nat.reduceEqDiff, Nat.reduceAdd, Nat.reduceMul, Nat.reduceLT, Nat.reduceLeDiff, reduceCtorEq, Int.reduceLT, Int.reduceLE, Int.reduceToNat, Int.reduceAdd, Int.reduceSub, Int.reduceNeg, Nat.reduceSub, Int.reduceEq, Int.reduceNe, Int.reduceGT, Int.reduceGE, h1]
    refine (At_calls (c := c) (.inr ⟨0, .num c hc⟩) _ _).mono ?_
    rintro r h2' ⟨he, k⟩
    have g1 := k.get h1 (by simp)
    obtain ⟨d, he⟩ : ∃ d, Er h2' d r c := by
      rcases he with ⟨h0, _⟩ | he
      · exact absurd h0 hc
      · exact he
    have hn : ∀ b ∈ [p], ∀ x, h2'[b]? ≠ some (Blk 224 x) := by
      intro b hb x hx
      obtain rfl : b = p := by simpa using hb
      rw [g1] at hx
      exact absurd (Blk_inj (Option.some.inj hx)) (by decide)
    obtain ⟨t, y, rfl⟩ := he.iface
    simp -implicitDefEqProofs only [go_sem, ↓reduceIte, Nat.reduceEqDiff, Nat.reduceAdd, Nat.reduceMul, Nat.reduceLT, Nat.reduceLeDiff, reduceCtorEq, Int.reduceLT, Int.reduceLE, Int.reduceToNat, Int.reduceAdd, Int.reduceSub, Int.reduceNeg, Nat.reduceSub, Int.reduceEq, Int.reduceNe, Int.reduceGT, Int.reduceGE, g1, Tryd.results159]
    have k2 : Keep h2' (hput h2' p 2 [.iface t y]) [p] := (Keep.refl _ _).hput (.inl (by simp)) _ _
    refine ⟨⟨⟨v, .iface t y, by rw [hput_same, g1]; rfl, (h2.keep0 k).keep k2 fun x hx => ?_, .inr ⟨d, he.keep' k2 hn⟩⟩, h4, h5⟩, (k.mono (by simp)).trans k2⟩
    have := Bo.nin (h2.keep0 k) g1 (by decide)
    simp only [List.mem_singleton]
    rintro rfl
    exact this hx
  · exact absurd rfl he.pos

/-- A reader goes on. -/
theorem Rdr.put {h : Heap} {p : Nat} {l : List Nat} {a c : Nat} (hr : Rdr h p l a c) {a' : Nat} (ha : a' ≤ l.length) : Rdr (hput h p 1 [.int .i64 a']) p l a' c ∧ Keep h (hput h p 1 [.int .i64 a']) [p] := by
  obtain ⟨⟨v, er, h1, h2, h3⟩, h4, h5⟩ := hr
  have k2 : Keep h (hput h p 1 [.int .i64 a']) [p] := (Keep.refl _ _).hput (.inl (by simp)) _ _
  refine ⟨⟨⟨v, er, by rw [hput_same, h1]; rfl, h2.keep k2 fun x hx => ?_, h3.keep' k2 fun b hb x hx => ?_⟩, ha, h5⟩, k2⟩
  · have := Bo.nin h2 h1 (by decide)
    simp only [List.mem_singleton]
    rintro rfl
    exact this hx
  · obtain rfl : b = p := by simpa using hb
    rw [h1] at hx
    exact absurd (Blk_inj (Option.some.inj hx)) (by decide)

theorem take_calls {h : Heap} {p : Nat} {l : List Nat} {a : Nat} (hr : Rdr h p l a 0) (n : Nat) (hn : n ≤ 549755813888) : CallsH Tryd.prog 203 #[.pointer (some ⟨p, 0, none⟩), .int .i64 n] h (fun r h' =>
    (if n ≤ l.length - a then Rdr h' p l (a + n) 0 ∧ Bs h' r ((l.drop a).take n) else Rdr h' p l a 2 ∧ r = .slice none 0 0) ∧ Keep h h' [p]) := by
  have hr0 := hr
  obtain ⟨⟨v, er, h1, h2, h3⟩, h4, h5⟩ := hr
  obtain ⟨b, cap, rfl, hcap, hnil, hb⟩ := h2.bs.open
  obtain ⟨_, rfl⟩ | ⟨d, he⟩ := h3
  · refine CallsH.of_code (args := [_, _]) Tryd.func203 rfl (by kernel_rfl) ?_
    simp -implicitDefEqProofs only [go_sem, ↓reduceIte, Nat.reduceEqDiff, Nat.reduceAdd, Nat.reduceMul, Nat.reduceLT, Nat.reduceLeDiff, reduceCtorEq, Int.reduceLT, Int.reduceLE, Int.reduceToNat, Int.reduceAdd, Int.reduceSub, Int.reduceNeg, Nat.reduceSub, Int.reduceEq, Int.reduceNe, Int.reduceGT, Int.reduceGE, h1]
    refine drawH_reads (.read 0 true (.read 1 true (.read 2 true (.read 3 true (.read 4 true (.read 5 true (.read 6 true (.read 7 true (.read 8 true (.read 9 true (.read 10 true (.read 11 true .done)))))))))))) (by kernel_rfl) (by kernel_rfl) ?_
    have e1 : IntKind.i64.wrap ((l.length : Int) - a) = ((l.length - a : Nat) : Int) := by rw [w_i64 (by omega) (by omega)]; omega
    by_cases hle : n ≤ l.length - a
    · have hle' : ¬ (n : Int) > ((l.length - a : Nat) : Int) := by omega
      have e2 : IntKind.i64.wrap ((a : Int) + n) = ((a + n : Nat) : Int) := by rw [w_i64 (by omega) (by omega)]; omega
      simp -implicitDefEqProofs only [go_sem, ↓reduceIte, Nat.reduceEqDiff, Nat.reduceAdd, Nat.reduceMul, Nat.reduceLT, Nat.reduceLeDiff, reduceCtorEq, Int.reduceLT, Int.reduceLE, Int.reduceToNat, Int.reduceAdd, Int.reduceSub, Int.reduceNeg, Nat.reduceSub, Int.reduceEq, Int.reduceNe, Int.reduceGT, Int.reduceGE, h1, forall_eq, e1, hle', e2]
      obtain ⟨hr2, k2⟩ := hr0.put (a' := a + n) (by omega)
      have g1 : (hput h p 1 [.int .i64 ((a + n : Nat) : Int)])[p]? = some (Blk 271 [.slice b l.length cap, .int .i64 ((a + n : Nat) : Int), .nilIface]) := by rw [hput_same, h1]; rfl
      generalize hput h p 1 [.int .i64 ((a + n : Nat) : Int)] = hh at *
      refine drawH_reads (.read 0 true (.read 1 true (.read 2 true (.read 3 true (.read 4 true (.read 5 true (.read 6 true (.read 7 true (.read 8 true (.read 9 true (.read 10 true (.read 11 true (.read 12 true (.read 13 true (.read 14 true (.read 15 true (.read 16 true (.read 17 true (.read 18 true (.read 19 true .done)))))))))))))))))))) (by kernel_rfl) (by kernel_rfl) ?_
      have e3 : IntKind.i64.wrap (((a + n : Nat) : Int) - n) = (a : Int) := by rw [w_i64 (by omega) (by omega)]; omega
      simp -implicitDefEqProofs only [go_sem, ↓reduceIte, Nat.reduceEqDiff, Nat.reduceAdd, Nat.reduceMul, Nat.reduceLT, Nat.reduceLeDiff, reduceCtorEq, Int.reduceLT, Int.reduceLE, Int.reduceToNat, Int.reduceAdd, Int.reduceSub, Int.reduceNeg, Nat.reduceSub, Int.reduceEq, Int.reduceNe, Int.reduceGT, Int.reduceGE, g1, forall_eq, e3, Int.toNat_natCast, Int.ofNat_le, Tryd.results203]
      have hq : Bo 5 hh (.slice b l.length cap) l := by
        obtain ⟨⟨v', er', q1, q2, q3⟩, _, _⟩ := hr2
        have := Option.some.inj (g1.symm.trans q1)
        simp only [Blk, Obj.cells.injEq, Array.mk.injEq, List.cons.injEq] at this
        rw [this.1.1]
        exact q2
      rw [if_pos hle]
      have hcut := hq.bs.cut (lo := a) (hi := a + n) (mx := a + n) (by omega) (by omega) (Nat.le_refl _) (by omega)
      rw [show a + n - a = n from by omega] at hcut ⊢
      exact ⟨by omega, by omega, ⟨hr2, hcut⟩, k2⟩
    · have hle' : (n : Int) > ((l.length - a : Nat) : Int) := by omega
      simp -implicitDefEqProofs only [go_sem, ↓reduceIte, Nat.reduceEqDiff, Nat.reduceAdd, Nat.reduceMul, Nat.reduceLT, Nat.reduceLeDiff, reduceCtorEq, Int.reduceLT, Int.reduceLE, Int.reduceToNat, Int.reduceAdd, Int.reduceSub, Int.reduceNeg, Nat.reduceSub, Int.reduceEq, Int.reduceNe, Int.reduceGT, Int.reduceGE, h1, forall_eq, e1, hle']
      refine (fail_calls hr0 2 (by decide)).mono ?_
      rintro r h' ⟨hr', k⟩
      simp -implicitDefEqProofs only [go_sem, ↓reduceIte, Nat.reduceEqDiff, Nat.reduceAdd, Nat.reduceMul, Nat.reduceLT, Nat.reduceLeDiff, reduceCtorEq, Int.reduceLT, Int.reduceLE, Int.reduceToNat, Int.reduceAdd, Int.reduceSub, Int.reduceNeg, Nat.reduceSub, Int.reduceEq, Int.reduceNe, Int.reduceGT, Int.reduceGE, hle, Tryd.results203]
      exact ⟨hr', k⟩
  · exact absurd rfl he.pos

/-- A number of bytes, the highest first, behind others. -/
def foldB (n : Nat) (l : List Nat) : Nat := l.foldl (fun n c => n * 256 + c) n
theorem foldB_lt : ∀ (l : List Nat) (n : Nat), (∀ x ∈ l, x < 256) → foldB n l < (n + 1) * 256 ^ l.length
  | [], n, _ => by simp [foldB]
  | c :: l, n, h => by
    have h1 := h c (by simp)
    have := foldB_lt l (n * 256 + c) (fun x hx => h x (by simp [hx]))
    show foldB (n * 256 + c) l < _
    refine Nat.lt_of_lt_of_le this ?_
    rw [List.length_cons, Nat.pow_succ, Nat.mul_comm (256 ^ l.length) 256, ← Nat.mul_assoc]
    exact Nat.mul_le_mul_right _ (by omega)

/-- How many bytes a number has, by its first one. -/
def firstK (x : Nat) : Nat := min (8 - lenF (255 - x) + 1) 9
/-- A number that is read: it, where the reader is then, what is wrong. -/
def readF (l : List Nat) (a : Nat) : Nat × Nat × Nat :=
  if a = l.length then (0, a, 2) else
  let x := l.getD a 0
  let k := firstK x
  if k ≤ l.length - a then
    let n := foldB (if k = 9 then 0 else x % 2 ^ (8 - k)) ((l.drop (a + 1)).take (k - 1))
    if sizeF n = k then (n, a + k, 0) else (0, a, 3)
  else (0, a, 2)

theorem notB (x : Nat) (hx : x < 256) : IntKind.u8.wrap ↑(BitVec.ofInt IntKind.u8.bits (if IntKind.u8.signed = true then -1 else IntKind.u8.max) ^^^ BitVec.ofInt IntKind.u8.bits x).toNat = ((255 - x : Nat) : Int) := by
  have : (List.range 256).all (fun x => decide (IntKind.u8.wrap ↑(BitVec.ofInt IntKind.u8.bits (if IntKind.u8.signed = true then -1 else IntKind.u8.max) ^^^ BitVec.ofInt IntKind.u8.bits (x : Nat)).toNat = ((255 - x : Nat) : Int))) = true := by kernel_rfl
  rw [List.all_eq_true] at this
  simpa using this x (by simpa using hx)
/-- The lower bits of the first byte. -/
theorem lowK (x k : Nat) (hx : x < 256) (h1 : 1 ≤ k) (h9 : k ≤ 8) : IntKind.u64.wrap ↑(BitVec.ofInt IntKind.u64.bits x &&& BitVec.ofInt IntKind.u64.bits ((255 : Int).fdiv (2 ^ min k IntKind.u64.bits))).toNat = ((x % 2 ^ (8 - k) : Nat) : Int) := by
  have : (List.range 256).all (fun x => (List.range 8).all fun k => decide (IntKind.u64.wrap ↑(BitVec.ofInt IntKind.u64.bits (x : Nat) &&& BitVec.ofInt IntKind.u64.bits ((255 : Int).fdiv (2 ^ min (k + 1) IntKind.u64.bits))).toNat = ((x % 2 ^ (8 - (k + 1)) : Nat) : Int))) = true := by kernel_rfl
  rw [List.all_eq_true] at this
  have h2 := this x (by simpa using hx)
  rw [List.all_eq_true] at h2
  have h3 := h2 (k - 1) (by simp; omega)
  rw [show k - 1 + 1 = k from by omega] at h3
  simpa using h3
/-- One byte more. -/
theorem moreB (n c : Nat) (hc : c < 256) (hn : n * 256 + c < 2 ^ 64) : IntKind.u64.wrap ↑(BitVec.ofInt IntKind.u64.bits (IntKind.u64.wrap ((n : Int) * 2 ^ min 8 IntKind.u64.bits)) ||| BitVec.ofInt IntKind.u64.bits (IntKind.u64.wrap c)).toNat = ((n * 256 + c : Nat) : Int) := by
  have e1 : IntKind.u64.wrap ((n : Int) * 2 ^ min 8 IntKind.u64.bits) = ((n * 256 : Nat) : Int) := by
    have : (2 : Int) ^ min 8 IntKind.u64.bits = 256 := rfl
    rw [this, w_u64 (by omega) (by omega)]; omega
  have e2 : IntKind.u64.wrap (c : Int) = ((c : Nat) : Int) := w_u64 (by omega) (by omega)
  rw [e1, e2]
  have e3 : (BitVec.ofInt IntKind.u64.bits ((n * 256 : Nat) : Int) ||| BitVec.ofInt IntKind.u64.bits ((c : Nat) : Int)).toNat = n * 256 + c := by
    rw [BitVec.toNat_or, BitVec.ofInt_natCast, BitVec.ofInt_natCast, BitVec.toNat_ofNat, BitVec.toNat_ofNat]
    have hb : IntKind.u64.bits = 64 := rfl
    rw [hb, Nat.mod_eq_of_lt (by omega), Nat.mod_eq_of_lt (by omega)]
    have := Nat.two_pow_add_eq_or_of_lt (i := 8) (b := c) (by omega) n
    rw [show n * 256 = 2 ^ 8 * n from by omega]
    exact this.symm
  rw [e3, w_u64 (by omega) (by omega)]
theorem firstK_range (x : Nat) : 1 ≤ firstK x ∧ firstK x ≤ 9 := by unfold firstK; omega

theorem Uint_calls {h : Heap} {p : Nat} {l : List Nat} {a : Nat} (hr : Rdr h p l a 0) : CallsH Tryd.prog 158 #[.pointer (some ⟨p, 0, none⟩)] h (fun r h' =>
    r = .int .u64 ((readF l a).1 : Nat) ∧ Rdr h' p l (readF l a).2.1 (readF l a).2.2 ∧ Keep h h' [p]) := by
  have hr0 := hr
  obtain ⟨⟨v, er, h1, h2, h3⟩, h4, h5⟩ := hr
  obtain ⟨b, cap, rfl, hcap, hnil, hb⟩ := h2.bs.open
  obtain ⟨_, rfl⟩ | ⟨d, he⟩ := h3
  · refine CallsH.of_code (args := [_]) Tryd.func158 rfl (by kernel_rfl) ?_
    simp -implicitDefEqProofs only [go_sem, ↓reduceIte, Nat.reduceEqDiff, Nat.reduceAdd, Nat.reduceMul, Nat.reduceLT, Nat.reduceLeDiff, reduceCtorEq, Int.reduceLT, Int.reduceLE, Int.reduceToNat, Int.reduceAdd, Int.reduceSub, Int.reduceNeg, Nat.reduceSub, Int.reduceEq, Int.reduceNe, Int.reduceGT, Int.reduceGE, h1]
    refine drawH_reads (.read 0 true (.read 1 true (.read 2 true (.read 3 true (.read 4 true (.read 5 true (.read 6 true (.read 7 true (.read 8 true (.read 9 true .done)))))))))) (by kernel_rfl) (by kernel_rfl) ?_
    by_cases ha : a = l.length
    · have ha' : (a : Int) = l.length := by omega
      simp -implicitDefEqProofs only [go_sem, ↓reduceIte, Nat.reduceEqDiff, Nat.reduceAdd, Nat.reduceMul, Nat.reduceLT, Nat.reduceLeDiff, reduceCtorEq, Int.reduceLT, Int.reduceLE, Int.reduceToNat, Int.reduceAdd, Int.reduceSub, Int.reduceNeg, Nat.reduceSub, Int.reduceEq, Int.reduceNe, Int.reduceGT, Int.reduceGE, h1, forall_eq, ha']
      refine (fail_calls hr0 2 (by decide)).mono ?_
      rintro r h' ⟨hr', k⟩
      simp -implicitDefEqProofs only [go_sem, ↓reduceIte, Nat.reduceEqDiff, Nat.reduceAdd, Nat.reduceMul, Nat.reduceLT, Nat.reduceLeDiff, reduceCtorEq, Int.reduceLT, Int.reduceLE, Int.reduceToNat, Int.reduceAdd, Int.reduceSub, Int.reduceNeg, Nat.reduceSub, Int.reduceEq, Int.reduceNe, Int.reduceGT, Int.reduceGE, Tryd.results158]
      have : readF l a = (0, a, 2) := by unfold readF; rw [if_pos ha]
      rw [this]
      exact ⟨rfl, hr', k⟩
    · have ha' : ¬ (a : Int) = l.length := by omega
      have hlt : a < l.length := by omega
      rcases hb with hb | ⟨q, o, cs, t, f, rfl, hq, hc⟩
      · subst hb; simp at hlt
      have g1 := hc a hlt
      have hlt' : (a : Int) < l.length := by omega
      simp -implicitDefEqProofs only [go_sem, ↓reduceIte, Nat.reduceEqDiff, Nat.reduceAdd, Nat.reduceMul, Nat.reduceLT, Nat.reduceLeDiff, reduceCtorEq, Int.reduceLT, Int.reduceLE, Int.reduceToNat, Int.reduceAdd, Int.reduceSub, Int.reduceNeg, Nat.reduceSub, Int.reduceEq, Int.reduceNe, Int.reduceGT, Int.reduceGE, h1, forall_eq, ha']
      refine drawH_reads (.read 0 false (.read 1 false (.read 2 false (.read 3 true (.read 4 false (.read 5 false (.read 6 false (.read 7 true (.read 8 false (.read 9 true (.read 10 false (.act 11 false (.read 12 false (.read 13 false (.read 14 false .done))))))))))))))) (by kernel_rfl) (by kernel_rfl) ?_
      simp -implicitDefEqProofs only [go_sem, ↓reduceIte, Nat.reduceEqDiff, Nat.reduceAdd, Nat.reduceMul, Nat.reduceLT, Nat.reduceLeDiff, reduceCtorEq, Int.reduceLT, Int.reduceLE, Int.reduceToNat, Int.reduceAdd, Int.reduceSub, Int.reduceNeg, Nat.reduceSub, Int.reduceEq, Int.reduceNe, Int.reduceGT, Int.reduceGE, h1, forall_eq, hlt', Int.toNat_natCast, Nat.mul_one, hq, g1]
      have hx : l.getD a 0 < 256 := by
        have := h2.2 l[a] (List.getElem_mem hlt)
        simpa [List.getD, hlt] using this
      generalize hxx : l.getD a 0 = x at *
      rw [notB x hx]
      refine (LeadingZeros8_calls _ (255 - x) (by omega)).mono ?_
      rintro _ h ⟨rfl, rfl⟩
      have hk9 := firstK_range x
      have e1 : (if (9 : Int) < IntKind.i64.wrap (((8 - lenF (255 - x) : Nat) : Int) + 1) then (9 : Int) else IntKind.i64.wrap (((8 - lenF (255 - x) : Nat) : Int) + 1)) = (firstK x : Int) := by
        rw [w_i64 (by omega) (by omega)]
        unfold firstK
        split <;> omega
      simp -implicitDefEqProofs only [go_sem, ↓reduceIte, Nat.reduceEqDiff, Nat.reduceAdd, Nat.reduceMul, Nat.reduceLT, Nat.reduceLeDiff, reduceCtorEq, Int.reduceLT, Int.reduceLE, Int.reduceToNat, Int.reduceAdd, Int.reduceSub, Int.reduceNeg, Nat.reduceSub, Int.reduceEq, Int.reduceNe, Int.reduceGT, Int.reduceGE, h1, e1, implies_true]
      refine (take_calls hr0 (firstK x) (by omega)).mono ?_
      rintro r hh ⟨hr1, k1⟩
      by_cases hle : firstK x ≤ l.length - a
      · rw [if_pos hle] at hr1
        obtain ⟨hr1, hbs⟩ := hr1
        have hr1' := hr1
        obtain ⟨⟨v', er', q1, q2, q3⟩, _, _⟩ := hr1
        obtain ⟨_, rfl⟩ | ⟨d, he⟩ := q3
        · have hlen : ((l.drop a).take (firstK x)).length = firstK x := by simp; omega
          obtain ⟨b2, cap2, rfl, hcap2, hnil2, hb2⟩ := hbs.open
          rcases hb2 with hb2 | ⟨q', o', cs', t', f', rfl, hq', hc'⟩
          · rw [hb2] at hlen; simp at hlen; omega
          rw [hlen] at hc' hcap2 hbs
          rw [hlen]
          have g2 := hc' 0 (by omega)
          have g3 : ((l.drop a).take (firstK x)).getD 0 0 = x := by
            have hk00 : 0 < firstK x := by omega
            rw [← hxx] at hk00 ⊢
            simp only [List.getD, List.getElem?_take, List.getElem?_drop, Nat.add_zero] at hk00 ⊢
            rw [if_pos hk00]
          rw [g3, Nat.add_zero] at g2
          have w1 : IntKind.u64.wrap (x : Int) = (x : Int) := w_u64 (by omega) (by omega)
          have hk0 : (0 : Int) < firstK x := by omega
          have hk1 : (1 : Int) ≤ firstK x := by omega
          have htlen : ((l.drop (a + 1)).take (firstK x - 1)).length = firstK x - 1 := by simp; omega
          have tail_lt : ∀ y ∈ (l.drop (a + 1)).take (firstK x - 1), y < 256 := fun y hy => h2.2 y (List.mem_of_mem_drop (List.mem_of_mem_take hy))
          have tail_ok : ∀ i, i < firstK x - 1 → ((l.drop (a + 1)).take (firstK x - 1)).getD i 0 < 256 := fun i hi => by
            have := tail_lt _ (List.getElem_mem (show i < ((l.drop (a + 1)).take (firstK x - 1)).length by omega))
            simpa [List.getD, List.getElem?_eq_getElem (show i < ((l.drop (a + 1)).take (firstK x - 1)).length by omega)] using this
          by_cases hk : firstK x = 9
          · have hk' : (firstK x : Int) = 9 := by omega
            have hkk : firstK x - 1 = 8 := by omega
            have hk3 := hk'
            have bound : ∀ i, foldB 0 (((l.drop (a + 1)).take (firstK x - 1)).take i) < 2 ^ 64 := fun i => by
              have h5 := foldB_lt (((l.drop (a + 1)).take (firstK x - 1)).take i) 0 (fun y hy => tail_lt y (List.mem_of_mem_take hy))
              refine Nat.lt_of_lt_of_le h5 ?_
              have h7 : 256 ^ (((l.drop (a + 1)).take (firstK x - 1)).take i).length ≤ 256 ^ 8 := Nat.pow_le_pow_right (by omega) (by rw [List.length_take]; omega)
              calc _ ≤ (0 + 1) * 256 ^ 8 := Nat.mul_le_mul (Nat.le_refl _) h7
                _ = 2 ^ 64 := by decide
            simp -implicitDefEqProofs only [go_sem, ↓reduceIte, Nat.reduceEqDiff, Nat.reduceAdd, Nat.reduceMul, Nat.reduceLT, Nat.reduceLeDiff, reduceCtorEq, Int.reduceLT, Int.reduceLE, Int.reduceToNat, Int.reduceAdd, Int.reduceSub, Int.reduceNeg, Nat.reduceSub, Int.reduceEq, Int.reduceNe, Int.reduceGT, Int.reduceGE, q1, hk', hq', g2, w1, Nat.add_zero]
            refine loop_dec (fun n' e h' => ∃ i : Nat, n' = firstK x - 1 - i ∧ i ≤ firstK x - 1 ∧ e 70 = .int .i64 i ∧ e 69 = .int .i64 ((firstK x - 1 : Nat) : Int) ∧ e 68 = .slice (if cap2 = 1 then some ⟨q', o', none⟩ else some ⟨q', o' + 1, none⟩) (firstK x - 1) (cap2 - 1) ∧ e 6 = .int .u64 ((foldB (0) (((l.drop (a + 1)).take (firstK x - 1)).take i) : Nat) : Int) ∧ e 3 = .int .i64 (firstK x) ∧ e 0 = .pointer (some ⟨p, 0, none⟩) ∧ e 4 = .int .i64 a ∧ h' = hh) (firstK x - 1)
              ⟨0, by simp, by omega, rfl, by simp -implicitDefEqProofs only [go_sem, ↓reduceIte, Nat.reduceEqDiff, Nat.reduceAdd, Nat.reduceMul, Nat.reduceLT, Nat.reduceLeDiff, reduceCtorEq, Int.reduceLT, Int.reduceLE, Int.reduceToNat, Int.reduceAdd, Int.reduceSub, Int.reduceNeg, Nat.reduceSub, Int.reduceEq, Int.reduceNe, Int.reduceGT, Int.reduceGE, hkk], by simp -implicitDefEqProofs only [go_sem, ↓reduceIte, Nat.reduceEqDiff, Nat.reduceAdd, Nat.reduceMul, Nat.reduceLT, Nat.reduceLeDiff, reduceCtorEq, Int.reduceLT, Int.reduceLE, Int.reduceToNat, Int.reduceAdd, Int.reduceSub, Int.reduceNeg, Nat.reduceSub, Int.reduceEq, Int.reduceNe, Int.reduceGT, Int.reduceGE], by simp -implicitDefEqProofs only [go_sem, ↓reduceIte, Nat.reduceEqDiff, Nat.reduceAdd, Nat.reduceMul, Nat.reduceLT, Nat.reduceLeDiff, reduceCtorEq, Int.reduceLT, Int.reduceLE, Int.reduceToNat, Int.reduceAdd, Int.reduceSub, Int.reduceNeg, Nat.reduceSub, Int.reduceEq, Int.reduceNe, Int.reduceGT, Int.reduceGE, List.take_zero, foldB, List.foldl_nil], by simp -implicitDefEqProofs only [go_sem, ↓reduceIte, Nat.reduceEqDiff, Nat.reduceAdd, Nat.reduceMul, Nat.reduceLT, Nat.reduceLeDiff, reduceCtorEq, Int.reduceLT, Int.reduceLE, Int.reduceToNat, Int.reduceAdd, Int.reduceSub, Int.reduceNeg, Nat.reduceSub, Int.reduceEq, Int.reduceNe, Int.reduceGT, Int.reduceGE, hk3], by simp -implicitDefEqProofs only [go_sem, ↓reduceIte, Nat.reduceEqDiff, Nat.reduceAdd, Nat.reduceMul, Nat.reduceLT, Nat.reduceLeDiff, reduceCtorEq, Int.reduceLT, Int.reduceLE, Int.reduceToNat, Int.reduceAdd, Int.reduceSub, Int.reduceNeg, Nat.reduceSub, Int.reduceEq, Int.reduceNe, Int.reduceGT, Int.reduceGE], by simp -implicitDefEqProofs only [go_sem, ↓reduceIte, Nat.reduceEqDiff, Nat.reduceAdd, Nat.reduceMul, Nat.reduceLT, Nat.reduceLeDiff, reduceCtorEq, Int.reduceLT, Int.reduceLE, Int.reduceToNat, Int.reduceAdd, Int.reduceSub, Int.reduceNeg, Nat.reduceSub, Int.reduceEq, Int.reduceNe, Int.reduceGT, Int.reduceGE], rfl⟩ ?_
            rintro n' e h' ⟨i, rfl, hi, e70, e69, e68, e6, e3, e0, e4, rfl⟩
            by_cases hik : i < firstK x - 1
            · have hik' : (i : Int) < ((firstK x - 1 : Nat) : Int) := by omega
              have hc1 : cap2 ≠ 1 := by omega
              have g4 := hc' (1 + i) (by omega)
              rw [← Nat.add_assoc] at g4
              have g5 : ((l.drop a).take (firstK x)).getD (1 + i) 0 = ((l.drop (a + 1)).take (firstK x - 1)).getD i 0 := by
                simp only [List.getD, List.getElem?_take, List.getElem?_drop]
                rw [if_pos (by omega), if_pos (by omega)]
                congr 2; omega
              rw [g5] at g4
              have htl := tail_ok i hik
              have hft : foldB (0) (((l.drop (a + 1)).take (firstK x - 1)).take (i + 1)) = foldB (0) (((l.drop (a + 1)).take (firstK x - 1)).take i) * 256 + ((l.drop (a + 1)).take (firstK x - 1)).getD i 0 := by
                rw [List.take_add_one, List.getElem?_eq_getElem (by omega)]
                simp only [foldB, Option.toList_some, List.foldl_append, List.foldl_cons, List.foldl_nil]
                congr 1
                simp [List.getD, List.getElem?_eq_getElem (show i < ((l.drop (a + 1)).take (firstK x - 1)).length by omega)]
              have hbd : foldB (0) (((l.drop (a + 1)).take (firstK x - 1)).take (i + 1)) < 2 ^ 64 := bound (i + 1)
              rw [hft] at hbd
              have hmo := moreB _ _ htl hbd
              simp -implicitDefEqProofs only [go_sem, ↓reduceIte, Nat.reduceEqDiff, Nat.reduceAdd, Nat.reduceMul, Nat.reduceLT, Nat.reduceLeDiff, reduceCtorEq, Int.reduceLT, Int.reduceLE, Int.reduceToNat, Int.reduceAdd, Int.reduceSub, Int.reduceNeg, Nat.reduceSub, Int.reduceEq, Int.reduceNe, Int.reduceGT, Int.reduceGE, e70, e69, e68, e6, e3, e0, e4, hik', hc1, Int.toNat_natCast, Nat.mul_one, hq', g4]
              refine ⟨firstK x - 1 - (i + 1), by omega, i + 1, rfl, by omega, ?_, ?_⟩
              · rw [w_i64 (by omega) (by omega)]; rfl
              · rw [hft, ← hmo]
            · obtain rfl : i = firstK x - 1 := by omega
              rw [List.take_of_length_le (by omega)] at e6
              have hbd := bound (firstK x - 1)
              rw [List.take_of_length_le (by omega)] at hbd
              generalize hN : foldB (0) ((l.drop (a + 1)).take (firstK x - 1)) = N at *
              simp -implicitDefEqProofs only [go_sem, ↓reduceIte, Nat.reduceEqDiff, Nat.reduceAdd, Nat.reduceMul, Nat.reduceLT, Nat.reduceLeDiff, reduceCtorEq, Int.reduceLT, Int.reduceLE, Int.reduceToNat, Int.reduceAdd, Int.reduceSub, Int.reduceNeg, Nat.reduceSub, Int.reduceEq, Int.reduceNe, Int.reduceGT, Int.reduceGE, e70, e69, e6, e3, e0, e4, Int.lt_irrefl]
              refine (size_calls _ N hbd).mono ?_
              rintro _ hh ⟨rfl, rfl⟩
              by_cases hs : sizeF N = firstK x
              · have hrd : readF l a = (N, a + firstK x, 0) := by unfold readF; rw [if_neg ha, hxx]; dsimp only; rw [if_pos hle]; rw [show (if firstK x = 9 then 0 else x % 2 ^ (8 - firstK x)) = 0 from if_pos hk, hN, if_pos hs]
                simp -implicitDefEqProofs only [go_sem, ↓reduceIte, Nat.reduceEqDiff, Nat.reduceAdd, Nat.reduceMul, Nat.reduceLT, Nat.reduceLeDiff, reduceCtorEq, Int.reduceLT, Int.reduceLE, Int.reduceToNat, Int.reduceAdd, Int.reduceSub, Int.reduceNeg, Nat.reduceSub, Int.reduceEq, Int.reduceNe, Int.reduceGT, Int.reduceGE, e6, e3, e0, e4, hs, hrd, Tryd.results158]
                exact ⟨hr1', k1⟩
              · have hs' : ¬ (sizeF N : Int) = firstK x := by omega
                have hrd : readF l a = (0, a, 3) := by unfold readF; rw [if_neg ha, hxx]; dsimp only; rw [if_pos hle]; rw [show (if firstK x = 9 then 0 else x % 2 ^ (8 - firstK x)) = 0 from if_pos hk, hN, if_neg hs]
                simp -implicitDefEqProofs only [go_sem, ↓reduceIte, Nat.reduceEqDiff, Nat.reduceAdd, Nat.reduceMul, Nat.reduceLT, Nat.reduceLeDiff, reduceCtorEq, Int.reduceLT, Int.reduceLE, Int.reduceToNat, Int.reduceAdd, Int.reduceSub, Int.reduceNeg, Nat.reduceSub, Int.reduceEq, Int.reduceNe, Int.reduceGT, Int.reduceGE, e6, e3, e0, e4, hs', q1]
                obtain ⟨hr3, k3⟩ := hr1'.put (a' := a) (by omega)
                refine (fail_calls hr3 3 (by decide)).mono ?_
                rintro r h4 ⟨hr4, k4⟩
                simp -implicitDefEqProofs only [go_sem, ↓reduceIte, Nat.reduceEqDiff, Nat.reduceAdd, Nat.reduceMul, Nat.reduceLT, Nat.reduceLeDiff, reduceCtorEq, Int.reduceLT, Int.reduceLE, Int.reduceToNat, Int.reduceAdd, Int.reduceSub, Int.reduceNeg, Nat.reduceSub, Int.reduceEq, Int.reduceNe, Int.reduceGT, Int.reduceGE, hrd, Tryd.results158]
                exact ⟨hr4, (k1.trans k3).trans k4⟩
          · have hk' : ¬ (firstK x : Int) = 9 := by omega
            have hkk : ((firstK x : Nat) : Int) = firstK x := rfl
            have bound : ∀ i, foldB (x % 2 ^ (8 - firstK x)) (((l.drop (a + 1)).take (firstK x - 1)).take i) < 2 ^ 64 := fun i => by
              have h5 := foldB_lt (((l.drop (a + 1)).take (firstK x - 1)).take i) (x % 2 ^ (8 - firstK x)) (fun y hy => tail_lt y (List.mem_of_mem_take hy))
              refine Nat.lt_of_lt_of_le h5 ?_
              have h6 : x % 2 ^ (8 - firstK x) + 1 ≤ 256 := by have := Nat.mod_le x (2 ^ (8 - firstK x)); omega
              have h7 : 256 ^ (((l.drop (a + 1)).take (firstK x - 1)).take i).length ≤ 256 ^ 7 := Nat.pow_le_pow_right (by omega) (by rw [List.length_take]; omega)
              calc _ ≤ 256 * 256 ^ 7 := Nat.mul_le_mul h6 h7
                _ = 2 ^ 64 := by decide
            simp -implicitDefEqProofs only [go_sem, ↓reduceIte, Nat.reduceEqDiff, Nat.reduceAdd, Nat.reduceMul, Nat.reduceLT, Nat.reduceLeDiff, reduceCtorEq, Int.reduceLT, Int.reduceLE, Int.reduceToNat, Int.reduceAdd, Int.reduceSub, Int.reduceNeg, Nat.reduceSub, Int.reduceEq, Int.reduceNe, Int.reduceGT, Int.reduceGE, q1, hk', hk0, hk1, hq', g2, w1, Nat.add_zero, Int.toNat_natCast, lowK x (firstK x) hx hk9.1 (by omega)]
            refine loop_dec (fun n' e h' => ∃ i : Nat, n' = firstK x - 1 - i ∧ i ≤ firstK x - 1 ∧ e 70 = .int .i64 i ∧ e 69 = .int .i64 ((firstK x - 1 : Nat) : Int) ∧ e 68 = .slice (if cap2 = 1 then some ⟨q', o', none⟩ else some ⟨q', o' + 1, none⟩) (firstK x - 1) (cap2 - 1) ∧ e 6 = .int .u64 ((foldB (x % 2 ^ (8 - firstK x)) (((l.drop (a + 1)).take (firstK x - 1)).take i) : Nat) : Int) ∧ e 3 = .int .i64 (firstK x) ∧ e 0 = .pointer (some ⟨p, 0, none⟩) ∧ e 4 = .int .i64 a ∧ h' = hh) (firstK x - 1)
              ⟨0, by simp, by omega, rfl, by simp -implicitDefEqProofs only [go_sem, ↓reduceIte, Nat.reduceEqDiff, Nat.reduceAdd, Nat.reduceMul, Nat.reduceLT, Nat.reduceLeDiff, reduceCtorEq, Int.reduceLT, Int.reduceLE, Int.reduceToNat, Int.reduceAdd, Int.reduceSub, Int.reduceNeg, Nat.reduceSub, Int.reduceEq, Int.reduceNe, Int.reduceGT, Int.reduceGE, hkk], by simp -implicitDefEqProofs only [go_sem, ↓reduceIte, Nat.reduceEqDiff, Nat.reduceAdd, Nat.reduceMul, Nat.reduceLT, Nat.reduceLeDiff, reduceCtorEq, Int.reduceLT, Int.reduceLE, Int.reduceToNat, Int.reduceAdd, Int.reduceSub, Int.reduceNeg, Nat.reduceSub, Int.reduceEq, Int.reduceNe, Int.reduceGT, Int.reduceGE], by simp -implicitDefEqProofs only [go_sem, ↓reduceIte, Nat.reduceEqDiff, Nat.reduceAdd, Nat.reduceMul, Nat.reduceLT, Nat.reduceLeDiff, reduceCtorEq, Int.reduceLT, Int.reduceLE, Int.reduceToNat, Int.reduceAdd, Int.reduceSub, Int.reduceNeg, Nat.reduceSub, Int.reduceEq, Int.reduceNe, Int.reduceGT, Int.reduceGE, List.take_zero, foldB, List.foldl_nil], by simp -implicitDefEqProofs only [go_sem, ↓reduceIte, Nat.reduceEqDiff, Nat.reduceAdd, Nat.reduceMul, Nat.reduceLT, Nat.reduceLeDiff, reduceCtorEq, Int.reduceLT, Int.reduceLE, Int.reduceToNat, Int.reduceAdd, Int.reduceSub, Int.reduceNeg, Nat.reduceSub, Int.reduceEq, Int.reduceNe, Int.reduceGT, Int.reduceGE], by simp -implicitDefEqProofs only [go_sem, ↓reduceIte, Nat.reduceEqDiff, Nat.reduceAdd, Nat.reduceMul, Nat.reduceLT, Nat.reduceLeDiff, reduceCtorEq, Int.reduceLT, Int.reduceLE, Int.reduceToNat, Int.reduceAdd, Int.reduceSub, Int.reduceNeg, Nat.reduceSub, Int.reduceEq, Int.reduceNe, Int.reduceGT, Int.reduceGE], by simp -implicitDefEqProofs only [go_sem, ↓reduceIte, Nat.reduceEqDiff, Nat.reduceAdd, Nat.reduceMul, Nat.reduceLT, Nat.reduceLeDiff, reduceCtorEq, Int.reduceLT, Int.reduceLE, Int.reduceToNat, Int.reduceAdd, Int.reduceSub, Int.reduceNeg, Nat.reduceSub, Int.reduceEq, Int.reduceNe, Int.reduceGT, Int.reduceGE], rfl⟩ ?_
            rintro n' e h' ⟨i, rfl, hi, e70, e69, e68, e6, e3, e0, e4, rfl⟩
            by_cases hik : i < firstK x - 1
            · have hik' : (i : Int) < ((firstK x - 1 : Nat) : Int) := by omega
              have hc1 : cap2 ≠ 1 := by omega
              have g4 := hc' (1 + i) (by omega)
              rw [← Nat.add_assoc] at g4
              have g5 : ((l.drop a).take (firstK x)).getD (1 + i) 0 = ((l.drop (a + 1)).take (firstK x - 1)).getD i 0 := by
                simp only [List.getD, List.getElem?_take, List.getElem?_drop]
                rw [if_pos (by omega), if_pos (by omega)]
                congr 2; omega
              rw [g5] at g4
              have htl := tail_ok i hik
              have hft : foldB (x % 2 ^ (8 - firstK x)) (((l.drop (a + 1)).take (firstK x - 1)).take (i + 1)) = foldB (x % 2 ^ (8 - firstK x)) (((l.drop (a + 1)).take (firstK x - 1)).take i) * 256 + ((l.drop (a + 1)).take (firstK x - 1)).getD i 0 := by
                rw [List.take_add_one, List.getElem?_eq_getElem (by omega)]
                simp only [foldB, Option.toList_some, List.foldl_append, List.foldl_cons, List.foldl_nil]
                congr 1
                simp [List.getD, List.getElem?_eq_getElem (show i < ((l.drop (a + 1)).take (firstK x - 1)).length by omega)]
              have hbd : foldB (x % 2 ^ (8 - firstK x)) (((l.drop (a + 1)).take (firstK x - 1)).take (i + 1)) < 2 ^ 64 := bound (i + 1)
              rw [hft] at hbd
              have hmo := moreB _ _ htl hbd
              simp -implicitDefEqProofs only [go_sem, ↓reduceIte, Nat.reduceEqDiff, Nat.reduceAdd, Nat.reduceMul, Nat.reduceLT, Nat.reduceLeDiff, reduceCtorEq, Int.reduceLT, Int.reduceLE, Int.reduceToNat, Int.reduceAdd, Int.reduceSub, Int.reduceNeg, Nat.reduceSub, Int.reduceEq, Int.reduceNe, Int.reduceGT, Int.reduceGE, e70, e69, e68, e6, e3, e0, e4, hik', hc1, Int.toNat_natCast, Nat.mul_one, hq', g4]
              refine ⟨firstK x - 1 - (i + 1), by omega, i + 1, rfl, by omega, ?_, ?_⟩
              · rw [w_i64 (by omega) (by omega)]; rfl
              · rw [hft, ← hmo]
            · obtain rfl : i = firstK x - 1 := by omega
              rw [List.take_of_length_le (by omega)] at e6
              have hbd := bound (firstK x - 1)
              rw [List.take_of_length_le (by omega)] at hbd
              generalize hN : foldB (x % 2 ^ (8 - firstK x)) ((l.drop (a + 1)).take (firstK x - 1)) = N at *
              simp -implicitDefEqProofs only [go_sem, ↓reduceIte, Nat.reduceEqDiff, Nat.reduceAdd, Nat.reduceMul, Nat.reduceLT, Nat.reduceLeDiff, reduceCtorEq, Int.reduceLT, Int.reduceLE, Int.reduceToNat, Int.reduceAdd, Int.reduceSub, Int.reduceNeg, Nat.reduceSub, Int.reduceEq, Int.reduceNe, Int.reduceGT, Int.reduceGE, e70, e69, e6, e3, e0, e4, Int.lt_irrefl]
              refine (size_calls _ N hbd).mono ?_
              rintro _ hh ⟨rfl, rfl⟩
              by_cases hs : sizeF N = firstK x
              · have hrd : readF l a = (N, a + firstK x, 0) := by unfold readF; rw [if_neg ha, hxx]; dsimp only; rw [if_pos hle]; rw [show (if firstK x = 9 then 0 else x % 2 ^ (8 - firstK x)) = x % 2 ^ (8 - firstK x) from if_neg hk, hN, if_pos hs]
                simp -implicitDefEqProofs only [go_sem, ↓reduceIte, Nat.reduceEqDiff, Nat.reduceAdd, Nat.reduceMul, Nat.reduceLT, Nat.reduceLeDiff, reduceCtorEq, Int.reduceLT, Int.reduceLE, Int.reduceToNat, Int.reduceAdd, Int.reduceSub, Int.reduceNeg, Nat.reduceSub, Int.reduceEq, Int.reduceNe, Int.reduceGT, Int.reduceGE, e6, e3, e0, e4, hs, hrd, Tryd.results158]
                exact ⟨hr1', k1⟩
              · have hs' : ¬ (sizeF N : Int) = firstK x := by omega
                have hrd : readF l a = (0, a, 3) := by unfold readF; rw [if_neg ha, hxx]; dsimp only; rw [if_pos hle]; rw [show (if firstK x = 9 then 0 else x % 2 ^ (8 - firstK x)) = x % 2 ^ (8 - firstK x) from if_neg hk, hN, if_neg hs]
                simp -implicitDefEqProofs only [go_sem, ↓reduceIte, Nat.reduceEqDiff, Nat.reduceAdd, Nat.reduceMul, Nat.reduceLT, Nat.reduceLeDiff, reduceCtorEq, Int.reduceLT, Int.reduceLE, Int.reduceToNat, Int.reduceAdd, Int.reduceSub, Int.reduceNeg, Nat.reduceSub, Int.reduceEq, Int.reduceNe, Int.reduceGT, Int.reduceGE, e6, e3, e0, e4, hs', q1]
                obtain ⟨hr3, k3⟩ := hr1'.put (a' := a) (by omega)
                refine (fail_calls hr3 3 (by decide)).mono ?_
                rintro r h4 ⟨hr4, k4⟩
                simp -implicitDefEqProofs only [go_sem, ↓reduceIte, Nat.reduceEqDiff, Nat.reduceAdd, Nat.reduceMul, Nat.reduceLT, Nat.reduceLeDiff, reduceCtorEq, Int.reduceLT, Int.reduceLE, Int.reduceToNat, Int.reduceAdd, Int.reduceSub, Int.reduceNeg, Nat.reduceSub, Int.reduceEq, Int.reduceNe, Int.reduceGT, Int.reduceGE, hrd, Tryd.results158]
                exact ⟨hr4, (k1.trans k3).trans k4⟩
        · exact absurd rfl he.pos
      · rw [if_neg hle] at hr1
        obtain ⟨hr1, rfl⟩ := hr1
        have hr1' := hr1
        obtain ⟨⟨v', er', q1, q2, q3⟩, _, _⟩ := hr1
        have : readF l a = (0, a, 2) := by unfold readF; rw [if_neg ha, hxx]; exact if_neg hle
        simp -implicitDefEqProofs only [go_sem, ↓reduceIte, Nat.reduceEqDiff, Nat.reduceAdd, Nat.reduceMul, Nat.reduceLT, Nat.reduceLeDiff, reduceCtorEq, Int.reduceLT, Int.reduceLE, Int.reduceToNat, Int.reduceAdd, Int.reduceSub, Int.reduceNeg, Nat.reduceSub, Int.reduceEq, Int.reduceNe, Int.reduceGT, Int.reduceGE, q1, ↓q3.neq, this, Tryd.results158]
        exact ⟨hr1', k1⟩
  · exact absurd rfl he.pos
end Go.Proofs.Tryd
