/- A number up to a greatest one; what was put is read. Its conditions: no more than 2^39 bytes. -/
import Derived.Test.YtekpbjiahlnknaaDoorVReader
namespace Go.Proofs.Tryd
open Go.H
set_option maxRecDepth 100000
set_option linter.unusedSimpArgs false
set_option linter.unusedVariables false

theorem Rdr.err {h : Heap} {p : Nat} {l : List Nat} {a c : Nat} (r : Rdr h p l a c) : ∃ v er, h[p]? = some (Blk 271 [v, .int .i64 a, er]) ∧ Eo h er c := by
  obtain ⟨⟨v, er, h1, h2, h3⟩, h4, h5⟩ := r
  exact ⟨v, er, h1, h3⟩
def uptoF (l : List Nat) (a most : Nat) : Nat × Nat × Nat := if (readF l a).2.2 = 0 ∧ most < (readF l a).1 then (0, a, 5) else readF l a

theorem Upto_calls {h : Heap} {p : Nat} {l : List Nat} {a : Nat} (hr : Rdr h p l a 0) (most : Nat) : CallsH Tryd.prog 116 #[.pointer (some ⟨p, 0, none⟩), .int .u64 most] h (fun r h' =>
    r = .int .u64 ((uptoF l a most).1 : Nat) ∧ Rdr h' p l (uptoF l a most).2.1 (uptoF l a most).2.2 ∧ Keep h h' [p]) := by
  obtain ⟨v, er, h1, h2⟩ := hr.err
  refine CallsH.of_code (args := [_, _]) Tryd.func116 rfl (by kernel_rfl) ?_
  simp -implicitDefEqProofs only [go_sem, ↓reduceIte, Nat.reduceEqDiff, Nat.reduceAdd, Nat.reduceMul, Nat.reduceLT, Nat.reduceLeDiff, reduceCtorEq, Int.reduceLT, Int.reduceLE, Int.reduceToNat, Int.reduceAdd, Int.reduceSub, Int.reduceNeg, Nat.reduceSub, Int.reduceEq, Int.reduceNe, Int.reduceGT, Int.reduceGE, h1]
  refine (Uint_calls hr).mono ?_
  rintro _ hh ⟨rfl, hr1, k1⟩
  obtain ⟨v', er', q1, q2⟩ := hr1.err
  have hle := hr.le
  unfold uptoF
  generalize readF l a = R at *
  obtain ⟨n, a', c⟩ := R
  dsimp only at *
  by_cases hc : c = 0
  · by_cases hn : most < n
    · have hn' : (n : Int) > most := by omega
      simp -implicitDefEqProofs only [go_sem, ↓reduceIte, Nat.reduceEqDiff, Nat.reduceAdd, Nat.reduceMul, Nat.reduceLT, Nat.reduceLeDiff, reduceCtorEq, Int.reduceLT, Int.reduceLE, Int.reduceToNat, Int.reduceAdd, Int.reduceSub, Int.reduceNeg, Nat.reduceSub, Int.reduceEq, Int.reduceNe, Int.reduceGT, Int.reduceGE, q1, ↓q2.eql, hc, hn', hn]
      obtain ⟨hr3, k3⟩ := hr1.put (a' := a) hle
      subst hc
      refine (fail_calls hr3 5 (by decide)).mono ?_
      rintro r h4 ⟨hr4, k4⟩
      simp -implicitDefEqProofs only [go_sem, ↓reduceIte, Nat.reduceEqDiff, Nat.reduceAdd, Nat.reduceMul, Nat.reduceLT, Nat.reduceLeDiff, reduceCtorEq, Int.reduceLT, Int.reduceLE, Int.reduceToNat, Int.reduceAdd, Int.reduceSub, Int.reduceNeg, Nat.reduceSub, Int.reduceEq, Int.reduceNe, Int.reduceGT, Int.reduceGE, Tryd.results116, hn]
      exact ⟨hr4, (k1.trans k3).trans k4⟩
    · have hn' : ¬ (n : Int) > most := by omega
      simp -implicitDefEqProofs only [go_sem, ↓reduceIte, Nat.reduceEqDiff, Nat.reduceAdd, Nat.reduceMul, Nat.reduceLT, Nat.reduceLeDiff, reduceCtorEq, Int.reduceLT, Int.reduceLE, Int.reduceToNat, Int.reduceAdd, Int.reduceSub, Int.reduceNeg, Nat.reduceSub, Int.reduceEq, Int.reduceNe, Int.reduceGT, Int.reduceGE, q1, ↓q2.eql, hc, hn', hn, and_false, Tryd.results116]
      exact ⟨hc ▸ hr1, k1⟩
  · simp -implicitDefEqProofs only [go_sem, ↓reduceIte, Nat.reduceEqDiff, Nat.reduceAdd, Nat.reduceMul, Nat.reduceLT, Nat.reduceLeDiff, reduceCtorEq, Int.reduceLT, Int.reduceLE, Int.reduceToNat, Int.reduceAdd, Int.reduceSub, Int.reduceNeg, Nat.reduceSub, Int.reduceEq, Int.reduceNe, Int.reduceGT, Int.reduceGE, q1, ↓q2.eql, hc, false_and, Tryd.results116]
    exact ⟨hr1, k1⟩

theorem fold_low (n : Nat) : ∀ (j q : Nat), foldB q (lowB n j) = q * 256 ^ j + n % 256 ^ j
  | 0, q => by simp [foldB, lowB, Nat.mod_one]
  | j + 1, q => by
    show foldB (q * 256 + n / 2 ^ (8 * j) % 256) (lowB n j) = _
    rw [fold_low n j, Nat.mod_pow_succ, Nat.pow_succ, show 2 ^ (8 * j) = 256 ^ j from by rw [Nat.pow_mul]]
    rw [Nat.add_mul, Nat.mul_assoc, Nat.mul_comm 256 (256 ^ j), Nat.mul_comm (n / 256 ^ j % 256) (256 ^ j)]
    omega

theorem firstK_first (k q : Nat) (h1 : 1 ≤ k) (h8 : k ≤ 8) (hq : q < 2 ^ (8 - k)) : firstK (256 - 2 ^ (9 - k) + q) = k ∧ (256 - 2 ^ (9 - k) + q) % 2 ^ (8 - k) = q := by
  have : (List.range 8).all (fun k => (List.range (2 ^ (8 - (k + 1)))).all fun q => decide (firstK (256 - 2 ^ (9 - (k + 1)) + q) = k + 1 ∧ (256 - 2 ^ (9 - (k + 1)) + q) % 2 ^ (8 - (k + 1)) = q)) = true := by kernel_rfl
  rw [List.all_eq_true] at this
  have h3 := this (k - 1) (by simp; omega)
  rw [List.all_eq_true, show k - 1 + 1 = k from by omega] at h3
  simpa using h3 q (by simpa using hq)

/-- What was put is read, whatever stands behind it. -/
theorem read_put {n : Nat} (hn : n < 2 ^ 64) (pre rest : List Nat) : readF (pre ++ putF n ++ rest) pre.length = (n, pre.length + sizeF n, 0) := by
  have hr := sizeF_range n
  have hl := putF_length n
  obtain ⟨f, t, hp, ht, hf, hv⟩ : ∃ f t, putF n = f :: t ∧ t.length = sizeF n - 1 ∧ firstK f = sizeF n ∧ foldB (if sizeF n = 9 then 0 else f % 2 ^ (8 - sizeF n)) t = n := by
    unfold putF
    by_cases h9 : sizeF n = 9
    · rw [if_pos h9]
      refine ⟨255, lowB n 8, rfl, by rw [lowB_length]; omega, by rw [h9]; rfl, ?_⟩
      rw [if_pos h9, fold_low, Nat.mod_eq_of_lt (show n < 256 ^ 8 from hn)]
      omega
    · rw [if_neg h9]
      have h1 := first_lt hn h9
      obtain ⟨e1, e2⟩ := firstK_first (sizeF n) _ hr.1 (by omega) h1
      refine ⟨_, _, rfl, by rw [lowB_length], e1, ?_⟩
      rw [if_neg h9, e2, fold_low, show 2 ^ (8 * (sizeF n - 1)) = 256 ^ (sizeF n - 1) from by rw [Nat.pow_mul]]
      exact Nat.div_add_mod' n _
  unfold readF
  have hlen : (pre ++ putF n ++ rest).length = pre.length + sizeF n + rest.length := by simp [hl]; omega
  rw [if_neg (by omega)]
  have hg : (pre ++ putF n ++ rest).getD pre.length 0 = f := by
    rw [hp]; simp [List.getD, List.getElem?_append]
  rw [hg]
  dsimp only
  rw [hf, if_pos (by omega)]
  have htl : ((pre ++ putF n ++ rest).drop (pre.length + 1)).take (sizeF n - 1) = t := by
    rw [hp, List.append_assoc, List.drop_append, List.drop_of_length_le (by omega)]
    rw [show pre.length + 1 - pre.length = 1 from by omega]
    simp [← ht]
  rw [htl, hv, if_pos rfl]
end Go.Proofs.Tryd
