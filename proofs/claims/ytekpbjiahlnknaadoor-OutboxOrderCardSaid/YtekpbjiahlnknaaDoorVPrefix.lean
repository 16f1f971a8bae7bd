/- Numbers as bytes, and their reader. Its conditions: no more than 2^39 bytes. -/
import Derived.Test.YtekpbjiahlnknaaDoorVBits
import Derived.Test.YtekpbjiahlnknaaDoorVErrs
namespace Go.Proofs.Tryd
open Go.H
set_option maxRecDepth 100000
set_option linter.unusedSimpArgs false
set_option linter.unusedVariables false

/-- How many bytes a number has. -/
def sizeF (n : Nat) : Nat := min (max ((lenF n + 6) / 7) 1) 9
theorem size_calls (h : Heap) (n : Nat) (hn : n < 2 ^ 64) : CallsH Tryd.prog 156 #[.int .u64 n] h (fun r h' => r = .int .i64 (sizeF n) ∧ h' = h) := by
  refine CallsH.of_code (args := [_]) Tryd.func156 rfl (by kernel_rfl) ?_
  simp -implicitDefEqProofs only [go_sem, ↓reduceIte, Nat.reduceEqDiff, Nat.reduceAdd, Nat.reduceMul, Nat.reduceLT, Nat.reduceLeDiff, reduceCtorEq, Int.reduceLT, Int.reduceLE, Int.reduceToNat, Int.reduceAdd, Int.reduceSub, Int.reduceNeg, Nat.reduceSub, Int.reduceEq, Int.reduceNe, Int.reduceGT, Int.reduceGE]
  refine (Len64_calls _ n hn).mono ?_
  rintro _ _ ⟨rfl, rfl⟩
  have b := (lenF_le n 64 hn).2 hn
  have q : ((lenF n : Int) + 6).tdiv 7 = ((lenF n + 6) / 7 : Nat) := by
    rw [Int.tdiv_eq_ediv_of_nonneg (by omega)]; omega
  have e1 : IntKind.i64.wrap ((lenF n : Int) + 6) = (lenF n : Int) + 6 := w_i64 (by omega) (by omega)
  have e2 : IntKind.i64.wrap (((lenF n + 6) / 7 : Nat) : Int) = ((lenF n + 6) / 7 : Nat) := w_i64 (by omega) (by omega)
  simp -implicitDefEqProofs only [go_sem, ↓reduceIte, Nat.reduceEqDiff, Nat.reduceAdd, Nat.reduceMul, Nat.reduceLT, Nat.reduceLeDiff, reduceCtorEq, Int.reduceLT, Int.reduceLE, Int.reduceToNat, Int.reduceAdd, Int.reduceSub, Int.reduceNeg, Nat.reduceSub, Int.reduceEq, Int.reduceNe, Int.reduceGT, Int.reduceGE, e1, q, e2, Tryd.results156]
  unfold sizeF
  congr 1
  split <;> split <;> omega
theorem sizeF_range (n : Nat) : 1 ≤ sizeF n ∧ sizeF n ≤ 9 := by unfold sizeF; omega
/-- A number is below 2^(7k) if it has k bytes. -/
theorem sizeF_le {n k : Nat} (hn : n < 2 ^ 64) (hk : 1 ≤ k) (h9 : k < 9) : sizeF n ≤ k ↔ n < 2 ^ (7 * k) := by
  rw [← lenF_le n (7 * k) hn]
  unfold sizeF
  omega

/-- The lower bytes of a number, j of them. -/
def lowB (n : Nat) : Nat → List Nat
  | 0 => []
  | j + 1 => n / 2 ^ (8 * j) % 256 :: lowB n j
/-- A number's bytes. -/
def putF (n : Nat) : List Nat :=
  if sizeF n = 9 then 255 :: lowB n 8 else (256 - 2 ^ (9 - sizeF n) + n / 2 ^ (8 * (sizeF n - 1))) :: lowB n (sizeF n - 1)
theorem lowB_length (n j : Nat) : (lowB n j).length = j := by
  induction j with
  | zero => rfl
  | succ j ih => simp [lowB, ih]
theorem lowB_lt (n : Nat) : ∀ j, ∀ x ∈ lowB n j, x < 256
  | 0, x, h => by simp [lowB] at h
  | j + 1, x, h => by
    simp only [lowB, List.mem_cons] at h
    rcases h with rfl | h
    · exact Nat.mod_lt _ (by omega)
    · exact lowB_lt n j x h
theorem putF_length (n : Nat) : (putF n).length = sizeF n := by
  have := sizeF_range n
  unfold putF
  split
  · simp [lowB_length]; omega
  · simp [lowB_length]; omega

theorem first_lt {n : Nat} (hn : n < 2 ^ 64) (h9 : sizeF n ≠ 9) : n / 2 ^ (8 * (sizeF n - 1)) < 2 ^ (8 - sizeF n) := by
  have hr := sizeF_range n
  have h1 := (sizeF_le hn hr.1 (by omega)).1 (Nat.le_refl _)
  rw [Nat.div_lt_iff_lt_mul (Nat.two_pow_pos _), ← Nat.pow_add]
  have : 8 - sizeF n + 8 * (sizeF n - 1) = 7 * sizeF n := by omega
  rw [this]
  exact h1
theorem putF_lt {n : Nat} (hn : n < 2 ^ 64) : ∀ x ∈ putF n, x < 256 := by
  intro x hx
  have hr := sizeF_range n
  unfold putF at hx
  split at hx
  · simp only [List.mem_cons] at hx
    rcases hx with rfl | hx
    · omega
    · exact lowB_lt n 8 x hx
  · rename_i h9
    simp only [List.mem_cons] at hx
    rcases hx with rfl | hx
    · have h1 := first_lt hn h9
      have h2 : 2 ^ (9 - sizeF n) = 2 * 2 ^ (8 - sizeF n) := by rw [← Nat.pow_succ']; congr 1; omega
      have h3 : 2 ^ (9 - sizeF n) ≤ 2 ^ 8 := Nat.pow_le_pow_right (by omega) (by omega)
      omega
    · exact lowB_lt n _ x hx

/-- A number's highest byte, as it is put together. -/
theorem byteN (n k : Nat) (hk : k ≤ 64) : IntKind.u8.wrap ((n : Int).fdiv (2 ^ min k IntKind.u64.bits)) = ((n / 2 ^ k % 256 : Nat) : Int) := by
  rw [fdivN n k hk, wrap_u8]
  omega

theorem firstB {n : Nat} (hn : n < 2 ^ 64) (h9 : sizeF n ≠ 9) :
    IntKind.u8.wrap ↑(BitVec.ofInt IntKind.u8.bits (IntKind.u8.wrap (255 * 2 ^ min (9 - sizeF n) IntKind.u8.bits)) ||| BitVec.ofInt IntKind.u8.bits ((n / 2 ^ (8 * (sizeF n - 1)) % 256 : Nat) : Int)).toNat =
      ((256 - 2 ^ (9 - sizeF n) + n / 2 ^ (8 * (sizeF n - 1)) : Nat) : Int) := by
  have hr := sizeF_range n
  have h1 := first_lt hn h9
  generalize n / 2 ^ (8 * (sizeF n - 1)) = q at *
  generalize sizeF n = k at *
  have key : ∀ k, 1 ≤ k → k ≤ 8 → ∀ q, q < 2 ^ (8 - k) → IntKind.u8.wrap ↑(BitVec.ofInt IntKind.u8.bits (IntKind.u8.wrap (255 * 2 ^ min (9 - k) IntKind.u8.bits)) ||| BitVec.ofInt IntKind.u8.bits ((q % 256 : Nat) : Int)).toNat = ((256 - 2 ^ (9 - k) + q : Nat) : Int) := by
    have : (List.range 8).all (fun k => (List.range (2 ^ (8 - (k + 1)))).all fun q => decide (IntKind.u8.wrap ↑(BitVec.ofInt IntKind.u8.bits (IntKind.u8.wrap (255 * 2 ^ min (9 - (k + 1)) IntKind.u8.bits)) ||| BitVec.ofInt IntKind.u8.bits ((q % 256 : Nat) : Int)).toNat = ((256 - 2 ^ (9 - (k + 1)) + q : Nat) : Int))) = true := by kernel_rfl
    intro k h1 h2 q hq
    rw [List.all_eq_true] at this
    have h3 := this (k - 1) (by simp; omega)
    rw [List.all_eq_true, show k - 1 + 1 = k from by omega] at h3
    have h4 := h3 q (by simpa using hq)
    simpa using h4
  exact key k hr.1 (by omega) q h1

/-- A row of bytes that grows: one that has no room, or one of the code's own. -/
def Buf (h0 h : Heap) (r : Value) (l : List Nat) : Prop := ((∃ x, r = .slice x l.length l.length) ∧ Bs h r l) ∨ (Bo 5 h r l ∧ Fresh h0 r)
theorem Buf.bs {h0 h : Heap} {r : Value} {l : List Nat} (b : Buf h0 h r l) : Bs h r l := by
  rcases b with b | b
  · exact b.2
  · exact b.1.bs
theorem Buf.keep0 {h0 h h' : Heap} {r : Value} {l : List Nat} (b : Buf h0 h r l) (k : Keep h h' []) : Buf h0 h' r l := by
  rcases b with ⟨e, b⟩ | ⟨b, f⟩
  · exact .inl ⟨e, b.keep0 k⟩
  · exact .inr ⟨b.keep0 k, f⟩
theorem ap_buf {K : Value → Heap → Prop} {h0 h : Heap} {r x : Value} {l m : List Nat} (b : Buf h0 h r l) (k0 : Keep h0 h []) (hx : Bs h x m) (hm : m ≠ []) (hb : l.length + m.length ≤ 1099511627776)
    (hk : ∀ v' h', Bo 5 h' v' (l ++ m) → Fresh h0 v' → Keep h0 h' [] → K v' h') : apH Tryd.prog 24 24 r x K h := by
  have hm' : 0 < m.length := List.length_pos_iff.2 hm
  rcases b with ⟨⟨y, rfl⟩, b⟩ | ⟨b, f⟩
  · exact ap_c b (by omega) hx hb fun v' h' hv k hf => hk v' h' hv (fun z hz => Nat.le_trans k0.size (hf z hz)) (k0.trans k)
  · exact ap_b b hx hb fun v' h' hv k hf => hk v' h' hv (fun z hz => by
      rcases hf z hz with h1 | h1
      · exact f z h1
      · exact Nat.le_trans k0.size h1) (k0.trans' k fun z hz => .inr (f z hz))
theorem flat_le (m : List Nat) : (m.flatMap putF).length ≤ 9 * m.length := by
  induction m with
  | nil => simp
  | cons n m ih =>
    have := sizeF_range n
    simp only [List.flatMap_cons, List.length_append, putF_length, List.length_cons]
    omega

theorem Put_calls {h : Heap} {v w : Value} {l m : List Nat} (hv : Bs h v l) (hw : SR h 1 w m.length (m.map fun n : Nat => Value.int .u64 n)) (hm : ∀ n ∈ m, n < 2 ^ 64) (hl : l.length ≤ 549755813888) (hml : m.length ≤ 1073741824) :
    CallsH Tryd.prog 112 #[v, w] h (fun r h' => (m ≠ [] → Bo 5 h' r (l ++ m.flatMap putF) ∧ Fresh h r) ∧ (m = [] → Bs h' r l) ∧ Keep h h' []) := by
  obtain ⟨⟨a, cap, rfl, h1, h2, h3⟩, _⟩ := hw
  refine CallsH.of_code (args := [_, _]) Tryd.func112 rfl (by kernel_rfl) ?_
  simp -implicitDefEqProofs only [go_sem, ↓reduceIte, Nat.reduceEqDiff, Nat.reduceAdd, Nat.reduceMul, Nat.reduceLT, Nat.reduceLeDiff, reduceCtorEq, Int.reduceLT, Int.reduceLE, Int.reduceToNat, Int.reduceAdd, Int.reduceSub, Int.reduceNeg, Nat.reduceSub, Int.reduceEq, Int.reduceNe, Int.reduceGT, Int.reduceGE]
  refine (Clip_calls hv).mono ?_
  rintro r h ⟨⟨x, rfl, hx⟩, hr, rfl⟩
  simp -implicitDefEqProofs only [go_sem, ↓reduceIte, Nat.reduceEqDiff, Nat.reduceAdd, Nat.reduceMul, Nat.reduceLT, Nat.reduceLeDiff, reduceCtorEq, Int.reduceLT, Int.reduceLE, Int.reduceToNat, Int.reduceAdd, Int.reduceSub, Int.reduceNeg, Nat.reduceSub, Int.reduceEq, Int.reduceNe, Int.reduceGT, Int.reduceGE]
  refine loop_dec (fun n e h' => ∃ (i : Nat) (r : Value), n = m.length - i ∧ i ≤ m.length ∧ e 13 = .int .i64 i ∧ e 12 = .int .i64 m.length ∧ e 11 = .slice a m.length cap ∧ e 0 = r ∧ Buf h h' r (l ++ (m.take i).flatMap putF) ∧ (i ≠ 0 → Bo 5 h' r (l ++ (m.take i).flatMap putF) ∧ Fresh h r) ∧ Keep h h' []) m.length
    ⟨0, _, by simp, by omega, rfl, rfl, rfl, rfl, by rw [List.take_zero, List.flatMap_nil, List.append_nil]; exact .inl ⟨⟨x, rfl⟩, hr⟩, by simp, Keep.refl _ _⟩ ?_
  rintro n e h' ⟨i, r, rfl, hi, e13, e12, e11, e0, hB, hO, k⟩
  by_cases hlt : i < m.length
  · have hlt' : (i : Int) < m.length := by omega
    rcases h3 with h3 | ⟨b, o, cs, t, f, rfl, hb, hc⟩
    · simp at h3; subst h3; simp at hlt
    have g1 := hc i (by simpa using hlt)
    rw [List.getElem?_map, List.getElem?_eq_getElem hlt, Option.map_some] at g1
    have hn : m[i] < 2 ^ 64 := hm _ (List.getElem_mem hlt)
    have hb' := k.get hb (by simp)
    have ht : (m.take (i + 1)).flatMap putF = (m.take i).flatMap putF ++ putF m[i] := by rw [List.take_add_one, List.getElem?_eq_getElem hlt, List.flatMap_append]; simp
    have hcl : (l ++ (m.take i).flatMap putF).length ≤ l.length + 9 * i := by
      have := flat_le (m.take i)
      simp only [List.length_take, List.length_append] at this ⊢
      omega
    generalize m[i] = n at *
    have hr9 := sizeF_range n
    simp -implicitDefEqProofs only [go_sem, ↓reduceIte, Nat.reduceEqDiff, Nat.reduceAdd, Nat.reduceMul, Nat.reduceLT, Nat.reduceLeDiff, reduceCtorEq, Int.reduceLT, Int.reduceLE, Int.reduceToNat, Int.reduceAdd, Int.reduceSub, Int.reduceNeg, Nat.reduceSub, Int.reduceEq, Int.reduceNe, Int.reduceGT, Int.reduceGE, e13, e12, e11, e0, hlt', Int.toNat_natCast, Nat.mul_one, hb', g1]
    refine (size_calls _ n hn).mono ?_
    rintro _ _ ⟨rfl, rfl⟩
    -- the first byte
    by_cases h9 : sizeF n = 9
    · have h9' : (sizeF n : Int) = 9 := by omega
      simp -implicitDefEqProofs only [go_sem, ↓reduceIte, Nat.reduceEqDiff, Nat.reduceAdd, Nat.reduceMul, Nat.reduceLT, Nat.reduceLeDiff, reduceCtorEq, Int.reduceLT, Int.reduceLE, Int.reduceToNat, Int.reduceAdd, Int.reduceSub, Int.reduceNeg, Nat.reduceSub, Int.reduceEq, Int.reduceNe, Int.reduceGT, Int.reduceGE, h9', e0, List.reduceReplicate, List.flatten_cons, List.flatten_nil, List.cons_append, List.nil_append, List.append_nil, List.length_set]
      refine ap_buf (m := [255]) (hB.keep0 ((Keep.refl _ _).push _)) (k.push _) (Bo.block (l := [255]) (push_new _ _) (by simp)).bs (by simp) (by simp only [List.length_singleton]; omega) ?_
      intro r' h2 hB2 f2 k2
      try simp -implicitDefEqProofs only [go_sem, ↓reduceIte, Nat.reduceEqDiff, Nat.reduceAdd, Nat.reduceMul, Nat.reduceLT, Nat.reduceLeDiff, reduceCtorEq, Int.reduceLT, Int.reduceLE, Int.reduceToNat, Int.reduceAdd, Int.reduceSub, Int.reduceNeg, Nat.reduceSub, Int.reduceEq, Int.reduceNe, Int.reduceGT, Int.reduceGE, h9', e0]
      refine loop_dec (fun n' e h' => ∃ (j : Nat) (r : Value) (cur : List Nat), n' = j ∧ j ≤ 8 ∧ e 8 = .int .i64 ((j : Int) - 1) ∧ e 6 = .int .u64 n ∧ e 13 = .int .i64 i ∧ e 12 = .int .i64 m.length ∧ e 11 = .slice (some ⟨b, o, none⟩) m.length cap ∧ e 0 = r ∧ Bo 5 h' r cur ∧ Fresh h r ∧ Keep h h' [] ∧ cur ++ lowB n j = l ++ (m.take (i + 1)).flatMap putF) (8)
        ⟨8, r', _, rfl, by omega, by rfl, by simp -implicitDefEqProofs only [go_sem, ↓reduceIte, Nat.reduceEqDiff, Nat.reduceAdd, Nat.reduceMul, Nat.reduceLT, Nat.reduceLeDiff, reduceCtorEq, Int.reduceLT, Int.reduceLE, Int.reduceToNat, Int.reduceAdd, Int.reduceSub, Int.reduceNeg, Nat.reduceSub, Int.reduceEq, Int.reduceNe, Int.reduceGT, Int.reduceGE], by simp -implicitDefEqProofs only [go_sem, ↓reduceIte, Nat.reduceEqDiff, Nat.reduceAdd, Nat.reduceMul, Nat.reduceLT, Nat.reduceLeDiff, reduceCtorEq, Int.reduceLT, Int.reduceLE, Int.reduceToNat, Int.reduceAdd, Int.reduceSub, Int.reduceNeg, Nat.reduceSub, Int.reduceEq, Int.reduceNe, Int.reduceGT, Int.reduceGE, e13], by simp -implicitDefEqProofs only [go_sem, ↓reduceIte, Nat.reduceEqDiff, Nat.reduceAdd, Nat.reduceMul, Nat.reduceLT, Nat.reduceLeDiff, reduceCtorEq, Int.reduceLT, Int.reduceLE, Int.reduceToNat, Int.reduceAdd, Int.reduceSub, Int.reduceNeg, Nat.reduceSub, Int.reduceEq, Int.reduceNe, Int.reduceGT, Int.reduceGE, e12], by simp -implicitDefEqProofs only [go_sem, ↓reduceIte, Nat.reduceEqDiff, Nat.reduceAdd, Nat.reduceMul, Nat.reduceLT, Nat.reduceLeDiff, reduceCtorEq, Int.reduceLT, Int.reduceLE, Int.reduceToNat, Int.reduceAdd, Int.reduceSub, Int.reduceNeg, Nat.reduceSub, Int.reduceEq, Int.reduceNe, Int.reduceGT, Int.reduceGE, e11], by simp -implicitDefEqProofs only [go_sem, ↓reduceIte, Nat.reduceEqDiff, Nat.reduceAdd, Nat.reduceMul, Nat.reduceLT, Nat.reduceLeDiff, reduceCtorEq, Int.reduceLT, Int.reduceLE, Int.reduceToNat, Int.reduceAdd, Int.reduceSub, Int.reduceNeg, Nat.reduceSub, Int.reduceEq, Int.reduceNe, Int.reduceGT, Int.reduceGE], hB2, f2, k2, by rw [ht, putF, if_pos h9]; simp⟩ ?_
      rintro j e h3 ⟨_, r3, cur, rfl, hj, e8, e6, e13, e12, e11, e0, hB3, f3, k3, hcur⟩
      have hcl3 : cur.length + j ≤ l.length + 9 * (i + 1) := by
        have := congrArg List.length hcur
        have h5 := flat_le (m.take (i + 1))
        simp only [List.length_append, lowB_length, List.length_take] at this h5
        omega
      by_cases hj0 : j = 0
      · subst hj0
        have e8 : e 8 = .int .i64 (-1) := e8
        simp -implicitDefEqProofs only [go_sem, ↓reduceIte, Nat.reduceEqDiff, Nat.reduceAdd, Nat.reduceMul, Nat.reduceLT, Nat.reduceLeDiff, reduceCtorEq, Int.reduceLT, Int.reduceLE, Int.reduceToNat, Int.reduceAdd, Int.reduceSub, Int.reduceNeg, Nat.reduceSub, Int.reduceEq, Int.reduceNe, Int.reduceGT, Int.reduceGE, e8, e13, e12, e11, e0]
        simp only [lowB, List.append_nil] at hcur
        refine ⟨m.length - (i + 1), by omega, i + 1, _, rfl, by omega, ?_, rfl, ?_, ?_, k3⟩
        · rw [w_i64 (by omega) (by omega)]; rfl
        · rw [← hcur]; exact .inr ⟨hB3, f3⟩
        · intro _; rw [← hcur]; exact ⟨hB3, f3⟩
      · have e8' : (j : Int) - 1 ≥ 0 := by omega
        obtain ⟨j', rfl⟩ : ∃ j', j = j' + 1 := ⟨j - 1, by omega⟩
        have w1 : IntKind.i64.wrap (8 * (((j' + 1 : Nat) : Int) - 1)) = ((8 * j' : Nat) : Int) := by rw [w_i64 (by omega) (by omega)]; omega
        have w2 := byteN n (8 * j') (by omega)
        simp -implicitDefEqProofs only [go_sem, ↓reduceIte, Nat.reduceEqDiff, Nat.reduceAdd, Nat.reduceMul, Nat.reduceLT, Nat.reduceLeDiff, reduceCtorEq, Int.reduceLT, Int.reduceLE, Int.reduceToNat, Int.reduceAdd, Int.reduceSub, Int.reduceNeg, Nat.reduceSub, Int.reduceEq, Int.reduceNe, Int.reduceGT, Int.reduceGE, e8, e6, e8', w1, Int.toNat_natCast, w2, e0, List.reduceReplicate, List.flatten_cons, List.flatten_nil, List.cons_append, List.nil_append, List.append_nil, List.length_set]
        refine ap_buf (m := [n / 2 ^ (8 * j') % 256]) (Buf.keep0 (.inr ⟨hB3, f3⟩) ((Keep.refl _ _).push _)) (k3.push _) (Bo.block (l := [n / 2 ^ (8 * j') % 256]) (push_new _ _) (by simp; omega)).bs (by simp) (by simp; omega) ?_
        intro r4 h4 hB4 f4 k4
        simp -implicitDefEqProofs only [go_sem, ↓reduceIte, Nat.reduceEqDiff, Nat.reduceAdd, Nat.reduceMul, Nat.reduceLT, Nat.reduceLeDiff, reduceCtorEq, Int.reduceLT, Int.reduceLE, Int.reduceToNat, Int.reduceAdd, Int.reduceSub, Int.reduceNeg, Nat.reduceSub, Int.reduceEq, Int.reduceNe, Int.reduceGT, Int.reduceGE, e8, e6, e13, e12, e11]
        refine ⟨j', by omega, j', _, _, rfl, by omega, ?_, rfl, hB4, f4, k4, ?_⟩
        · rw [w_i64 (by omega) (by omega)]; congr 1; omega
        · rw [← hcur, List.append_assoc]; rfl
    · have h9' : ¬ (sizeF n : Int) = 9 := by omega
      have g1 : IntKind.i64.wrap (9 - (sizeF n : Int)) = ((9 - sizeF n : Nat) : Int) := by rw [w_i64 (by omega) (by omega)]; omega
      have g2 : IntKind.i64.wrap ((sizeF n : Int) - 1) = ((sizeF n - 1 : Nat) : Int) := by rw [w_i64 (by omega) (by omega)]; omega
      have g3 : IntKind.i64.wrap (8 * ((sizeF n - 1 : Nat) : Int)) = ((8 * (sizeF n - 1) : Nat) : Int) := by rw [w_i64 (by omega) (by omega)]; omega
      have g4 := byteN n (8 * (sizeF n - 1)) (by omega)
      have g5 := firstB hn h9
      have g6 : (256 - 2 ^ (9 - sizeF n) + n / 2 ^ (8 * (sizeF n - 1))) < 256 := putF_lt hn _ (by unfold putF; rw [if_neg h9]; simp)
      have g7 : IntKind.i64.wrap ((sizeF n : Int) - 2) = ((sizeF n - 1 : Nat) : Int) - 1 := by rw [w_i64 (by omega) (by omega)]; omega
      simp -implicitDefEqProofs only [go_sem, ↓reduceIte, Nat.reduceEqDiff, Nat.reduceAdd, Nat.reduceMul, Nat.reduceLT, Nat.reduceLeDiff, reduceCtorEq, Int.reduceLT, Int.reduceLE, Int.reduceToNat, Int.reduceAdd, Int.reduceSub, Int.reduceNeg, Nat.reduceSub, Int.reduceEq, Int.reduceNe, Int.reduceGT, Int.reduceGE, h9', e0]
      refine drawH_reads (.read 0 false (.read 1 false (.read 2 false (.read 3 false (.read 4 false (.read 5 false (.read 6 false (.read 7 false (.read 8 false (.read 9 false (.read 10 false (.act 11 true (.act 12 true (.read 13 false .done)))))))))))))) (by kernel_rfl) (by kernel_rfl) ?_
      simp -implicitDefEqProofs only [go_sem, ↓reduceIte, Nat.reduceEqDiff, Nat.reduceAdd, Nat.reduceMul, Nat.reduceLT, Nat.reduceLeDiff, reduceCtorEq, Int.reduceLT, Int.reduceLE, Int.reduceToNat, Int.reduceAdd, Int.reduceSub, Int.reduceNeg, Nat.reduceSub, Int.reduceEq, Int.reduceNe, Int.reduceGT, Int.reduceGE, h9', e0, g1, g2, g3, g4, g5, Int.toNat_natCast, List.reduceReplicate, List.flatten_cons, List.flatten_nil, List.cons_append, List.nil_append, List.append_nil, List.length_set]
      refine ap_buf (m := [256 - 2 ^ (9 - sizeF n) + n / 2 ^ (8 * (sizeF n - 1))]) (hB.keep0 ((Keep.refl _ _).push _)) (k.push _) (Bo.block (l := [256 - 2 ^ (9 - sizeF n) + n / 2 ^ (8 * (sizeF n - 1))]) (push_new _ _) (by simpa using g6)).bs (by simp) (by simp only [List.length_singleton]; omega) ?_
      intro r' h2 hB2 f2 k2
      try simp -implicitDefEqProofs only [go_sem, ↓reduceIte, Nat.reduceEqDiff, Nat.reduceAdd, Nat.reduceMul, Nat.reduceLT, Nat.reduceLeDiff, reduceCtorEq, Int.reduceLT, Int.reduceLE, Int.reduceToNat, Int.reduceAdd, Int.reduceSub, Int.reduceNeg, Nat.reduceSub, Int.reduceEq, Int.reduceNe, Int.reduceGT, Int.reduceGE, h9', e0]
      refine loop_dec (fun n' e h' => ∃ (j : Nat) (r : Value) (cur : List Nat), n' = j ∧ j ≤ 8 ∧ e 8 = .int .i64 ((j : Int) - 1) ∧ e 6 = .int .u64 n ∧ e 13 = .int .i64 i ∧ e 12 = .int .i64 m.length ∧ e 11 = .slice (some ⟨b, o, none⟩) m.length cap ∧ e 0 = r ∧ Bo 5 h' r cur ∧ Fresh h r ∧ Keep h h' [] ∧ cur ++ lowB n j = l ++ (m.take (i + 1)).flatMap putF) (sizeF n - 1)
        ⟨sizeF n - 1, r', _, rfl, by omega, by simp -implicitDefEqProofs only [go_sem, ↓reduceIte, Nat.reduceEqDiff, Nat.reduceAdd, Nat.reduceMul, Nat.reduceLT, Nat.reduceLeDiff, reduceCtorEq, Int.reduceLT, Int.reduceLE, Int.reduceToNat, Int.reduceAdd, Int.reduceSub, Int.reduceNeg, Nat.reduceSub, Int.reduceEq, Int.reduceNe, Int.reduceGT, Int.reduceGE, g7], by simp -implicitDefEqProofs only [go_sem, ↓reduceIte, Nat.reduceEqDiff, Nat.reduceAdd, Nat.reduceMul, Nat.reduceLT, Nat.reduceLeDiff, reduceCtorEq, Int.reduceLT, Int.reduceLE, Int.reduceToNat, Int.reduceAdd, Int.reduceSub, Int.reduceNeg, Nat.reduceSub, Int.reduceEq, Int.reduceNe, Int.reduceGT, Int.reduceGE], by simp -implicitDefEqProofs only [go_sem, ↓reduceIte, Nat.reduceEqDiff, Nat.reduceAdd, Nat.reduceMul, Nat.reduceLT, Nat.reduceLeDiff, reduceCtorEq, Int.reduceLT, Int.reduceLE, Int.reduceToNat, Int.reduceAdd, Int.reduceSub, Int.reduceNeg, Nat.reduceSub, Int.reduceEq, Int.reduceNe, Int.reduceGT, Int.reduceGE, e13], by simp -implicitDefEqProofs only [go_sem, ↓reduceIte, Nat.reduceEqDiff, Nat.reduceAdd, Nat.reduceMul, Nat.reduceLT, Nat.reduceLeDiff, reduceCtorEq, Int.reduceLT, Int.reduceLE, Int.reduceToNat, Int.reduceAdd, Int.reduceSub, Int.reduceNeg, Nat.reduceSub, Int.reduceEq, Int.reduceNe, Int.reduceGT, Int.reduceGE, e12], by simp -implicitDefEqProofs only [go_sem, ↓reduceIte, Nat.reduceEqDiff, Nat.reduceAdd, Nat.reduceMul, Nat.reduceLT, Nat.reduceLeDiff, reduceCtorEq, Int.reduceLT, Int.reduceLE, Int.reduceToNat, Int.reduceAdd, Int.reduceSub, Int.reduceNeg, Nat.reduceSub, Int.reduceEq, Int.reduceNe, Int.reduceGT, Int.reduceGE, e11], by simp -implicitDefEqProofs only [go_sem, ↓reduceIte, Nat.reduceEqDiff, Nat.reduceAdd, Nat.reduceMul, Nat.reduceLT, Nat.reduceLeDiff, reduceCtorEq, Int.reduceLT, Int.reduceLE, Int.reduceToNat, Int.reduceAdd, Int.reduceSub, Int.reduceNeg, Nat.reduceSub, Int.reduceEq, Int.reduceNe, Int.reduceGT, Int.reduceGE], hB2, f2, k2, by rw [ht, putF, if_neg h9]; simp⟩ ?_
      rintro j e h3 ⟨_, r3, cur, rfl, hj, e8, e6, e13, e12, e11, e0, hB3, f3, k3, hcur⟩
      have hcl3 : cur.length + j ≤ l.length + 9 * (i + 1) := by
        have := congrArg List.length hcur
        have h5 := flat_le (m.take (i + 1))
        simp only [List.length_append, lowB_length, List.length_take] at this h5
        omega
      by_cases hj0 : j = 0
      · subst hj0
        have e8 : e 8 = .int .i64 (-1) := e8
        simp -implicitDefEqProofs only [go_sem, ↓reduceIte, Nat.reduceEqDiff, Nat.reduceAdd, Nat.reduceMul, Nat.reduceLT, Nat.reduceLeDiff, reduceCtorEq, Int.reduceLT, Int.reduceLE, Int.reduceToNat, Int.reduceAdd, Int.reduceSub, Int.reduceNeg, Nat.reduceSub, Int.reduceEq, Int.reduceNe, Int.reduceGT, Int.reduceGE, e8, e13, e12, e11, e0]
        simp only [lowB, List.append_nil] at hcur
        refine ⟨m.length - (i + 1), by omega, i + 1, _, rfl, by omega, ?_, rfl, ?_, ?_, k3⟩
        · rw [w_i64 (by omega) (by omega)]; rfl
        · rw [← hcur]; exact .inr ⟨hB3, f3⟩
        · intro _; rw [← hcur]; exact ⟨hB3, f3⟩
      · have e8' : (j : Int) - 1 ≥ 0 := by omega
        obtain ⟨j', rfl⟩ : ∃ j', j = j' + 1 := ⟨j - 1, by omega⟩
        have w1 : IntKind.i64.wrap (8 * (((j' + 1 : Nat) : Int) - 1)) = ((8 * j' : Nat) : Int) := by rw [w_i64 (by omega) (by omega)]; omega
        have w2 := byteN n (8 * j') (by omega)
        simp -implicitDefEqProofs only [go_sem, ↓reduceIte, Nat.reduceEqDiff, Nat.reduceAdd, Nat.reduceMul, Nat.reduceLT, Nat.reduceLeDiff, reduceCtorEq, Int.reduceLT, Int.reduceLE, Int.reduceToNat, Int.reduceAdd, Int.reduceSub, Int.reduceNeg, Nat.reduceSub, Int.reduceEq, Int.reduceNe, Int.reduceGT, Int.reduceGE, e8, e6, e8', w1, Int.toNat_natCast, w2, e0, List.reduceReplicate, List.flatten_cons, List.flatten_nil, List.cons_append, List.nil_append, List.append_nil, List.length_set]
        refine ap_buf (m := [n / 2 ^ (8 * j') % 256]) (Buf.keep0 (.inr ⟨hB3, f3⟩) ((Keep.refl _ _).push _)) (k3.push _) (Bo.block (l := [n / 2 ^ (8 * j') % 256]) (push_new _ _) (by simp; omega)).bs (by simp) (by simp; omega) ?_
        intro r4 h4 hB4 f4 k4
        simp -implicitDefEqProofs only [go_sem, ↓reduceIte, Nat.reduceEqDiff, Nat.reduceAdd, Nat.reduceMul, Nat.reduceLT, Nat.reduceLeDiff, reduceCtorEq, Int.reduceLT, Int.reduceLE, Int.reduceToNat, Int.reduceAdd, Int.reduceSub, Int.reduceNeg, Nat.reduceSub, Int.reduceEq, Int.reduceNe, Int.reduceGT, Int.reduceGE, e8, e6, e13, e12, e11]
        refine ⟨j', by omega, j', _, _, rfl, by omega, ?_, rfl, hB4, f4, k4, ?_⟩
        · rw [w_i64 (by omega) (by omega)]; congr 1; omega
        · rw [← hcur, List.append_assoc]; rfl
  · obtain rfl : i = m.length := by omega
    simp -implicitDefEqProofs only [go_sem, ↓reduceIte, Nat.reduceEqDiff, Nat.reduceAdd, Nat.reduceMul, Nat.reduceLT, Nat.reduceLeDiff, reduceCtorEq, Int.reduceLT, Int.reduceLE, Int.reduceToNat, Int.reduceAdd, Int.reduceSub, Int.reduceNeg, Nat.reduceSub, Int.reduceEq, Int.reduceNe, Int.reduceGT, Int.reduceGE, e13, e12, e0, Int.lt_irrefl, Tryd.results112]
    rw [List.take_length] at hB hO
    refine ⟨fun hne => hO (by simpa using hne), fun he => ?_, k⟩
    subst he
    simpa using hB.bs
end Go.Proofs.Tryd
