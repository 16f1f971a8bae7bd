/- How many bits a number has. Its conditions: none. -/
import Derived.Test.YtekpbjiahlnknaaDoorVBytes
namespace Go.Proofs.Tryd
open Go.H
set_option maxRecDepth 100000
set_option linter.unusedSimpArgs false
set_option linter.unusedVariables false

/-- How many bits a number has, of no more than f. -/
def lenG : Nat → Nat → Nat
  | 0, _ => 0
  | f + 1, n => if n = 0 then 0 else lenG f (n / 2) + 1
def lenF (n : Nat) : Nat := lenG 64 n

theorem lenG_le : ∀ (f n k : Nat), n < 2 ^ f → (lenG f n ≤ k ↔ n < 2 ^ k)
  | 0, n, k, h => by
    have : n = 0 := by simpa using h
    subst this
    simp [lenG, Nat.two_pow_pos]
  | f + 1, n, k, h => by
    unfold lenG
    by_cases h0 : n = 0
    · subst h0; simp [Nat.two_pow_pos]
    · rw [if_neg h0]
      have h2 : n / 2 < 2 ^ f := by rw [Nat.pow_succ] at h; omega
      cases k with
      | zero => simp; omega
      | succ k =>
        have := lenG_le f (n / 2) k h2
        rw [Nat.pow_succ]
        omega
theorem lenF_le (n k : Nat) (h : n < 2 ^ 64) : lenF n ≤ k ↔ n < 2 ^ k := lenG_le 64 n k h
theorem lenF_eq {n k : Nat} (h : n < 2 ^ 64) (h1 : n < 2 ^ k) (h2 : k = 0 ∨ 2 ^ (k - 1) ≤ n) : lenF n = k := by
  have := (lenF_le n k h).2 h1
  rcases h2 with rfl | h2
  · omega
  · by_cases hk : k = 0
    · omega
    · have : ¬ lenF n ≤ k - 1 := fun hh => by have := (lenF_le n (k - 1) h).1 hh; omega
      omega
/-- The bits above the lowest k. -/
theorem lenF_div (n k : Nat) (h : n < 2 ^ 64) (hk : 2 ^ k ≤ n) : lenF n = lenF (n / 2 ^ k) + k := by
  have hn : n / 2 ^ k < 2 ^ 64 := Nat.lt_of_le_of_lt (Nat.div_le_self _ _) h
  have h0 : 1 ≤ n / 2 ^ k := by rw [Nat.le_div_iff_mul_le (Nat.two_pow_pos k)]; omega
  have key : ∀ j, lenF n ≤ j + k ↔ lenF (n / 2 ^ k) ≤ j := fun j => by
    rw [lenF_le _ _ h, lenF_le _ _ hn, Nat.div_lt_iff_lt_mul (Nat.two_pow_pos k), Nat.pow_add]
  have h1 := (key (lenF (n / 2 ^ k))).2 (Nat.le_refl _)
  have h2 : ¬ lenF n < k := fun hh => by
    have := (lenF_le n (k - 1) h).1 (by omega)
    have h3 : 2 ^ (k - 1) ≤ 2 ^ k := Nat.pow_le_pow_right (by omega) (by omega)
    omega
  have h3 := (key (lenF n - k)).1 (by omega)
  omega

theorem Len8_calls (h : Heap) (x : Nat) (hx : x < 256) : CallsH Tryd.prog 220 #[.int .u8 x] h (fun r h' => r = .int .i64 (lenF x) ∧ h' = h) := by
  refine CallsH.of_code (args := [_]) Tryd.func220 rfl (by kernel_rfl) ?_
  simp -implicitDefEqProofs only [go_sem, ↓reduceIte, Nat.reduceEqDiff, Nat.reduceAdd, Nat.reduceMul, Nat.reduceLT, Nat.reduceLeDiff, reduceCtorEq, Int.reduceLT, Int.reduceLE, Int.reduceToNat, Int.reduceAdd, Int.reduceSub, Int.reduceNeg, Nat.reduceSub, Int.reduceEq, Int.reduceNe, Int.reduceGT, Int.reduceGE, Tryd.results220]
  rw [el_tab (f := lenF) 9 .u8 x (by kernel_rfl) (by kernel_rfl) hx]
  have : lenF x ≤ 64 := (lenF_le x 64 (by omega)).2 (by omega)
  simp -implicitDefEqProofs only [go_sem, ↓reduceIte, Nat.reduceEqDiff, Nat.reduceAdd, Nat.reduceMul, Nat.reduceLT, Nat.reduceLeDiff, reduceCtorEq, Int.reduceLT, Int.reduceLE, Int.reduceToNat, Int.reduceAdd, Int.reduceSub, Int.reduceNeg, Nat.reduceSub, Int.reduceEq, Int.reduceNe, Int.reduceGT, Int.reduceGE, Tryd.results220]
  rw [w_i64 (by omega) (by omega)]

theorem LeadingZeros8_calls (h : Heap) (x : Nat) (hx : x < 256) : CallsH Tryd.prog 202 #[.int .u8 x] h (fun r h' => r = .int .i64 ((8 - lenF x : Nat) : Int) ∧ h' = h) := by
  refine CallsH.of_code (args := [_]) Tryd.func202 rfl (by kernel_rfl) ?_
  simp -implicitDefEqProofs only [go_sem, ↓reduceIte, Nat.reduceEqDiff, Nat.reduceAdd, Nat.reduceMul, Nat.reduceLT, Nat.reduceLeDiff, reduceCtorEq, Int.reduceLT, Int.reduceLE, Int.reduceToNat, Int.reduceAdd, Int.reduceSub, Int.reduceNeg, Nat.reduceSub, Int.reduceEq, Int.reduceNe, Int.reduceGT, Int.reduceGE, Tryd.results202]
  refine (Len8_calls _ x hx).mono ?_
  rintro _ _ ⟨rfl, rfl⟩
  have : lenF x ≤ 8 := (lenF_le x 8 (by omega)).2 (by omega)
  simp -implicitDefEqProofs only [go_sem, ↓reduceIte, Nat.reduceEqDiff, Nat.reduceAdd, Nat.reduceMul, Nat.reduceLT, Nat.reduceLeDiff, reduceCtorEq, Int.reduceLT, Int.reduceLE, Int.reduceToNat, Int.reduceAdd, Int.reduceSub, Int.reduceNeg, Nat.reduceSub, Int.reduceEq, Int.reduceNe, Int.reduceGT, Int.reduceGE, Tryd.results202]
  rw [w_i64 (by omega) (by omega)]
  congr 1; omega

theorem fdivN (n k : Nat) (hk : k ≤ 64) : (n : Int).fdiv (2 ^ min k IntKind.u64.bits) = ((n / 2 ^ k : Nat) : Int) := by
  have : min k IntKind.u64.bits = k := Nat.min_eq_left hk
  rw [this, show ((2 : Int) ^ k) = ((2 ^ k : Nat) : Int) from by simp, Int.fdiv_eq_ediv_of_nonneg _ (Int.natCast_nonneg _)]
  rfl

theorem Len64_calls (h : Heap) (n : Nat) (hn : n < 2 ^ 64) : CallsH Tryd.prog 187 #[.int .u64 n] h (fun r h' => r = .int .i64 (lenF n) ∧ h' = h) := by
  refine CallsH.of_code (args := [_]) Tryd.func187 rfl (by kernel_rfl) ?_
  have b64 : lenF n ≤ 64 := (lenF_le n 64 hn).2 hn
  by_cases h0 : 2 ^ 32 ≤ n
  · have g0 : (n : Int) ≥ 4294967296 := by omega
    have e0 := lenF_div n 32 (by omega) h0
    have q0 := fdivN n 32 (by omega)
    have l0 : n / 2 ^ 32 < 2 ^ 32 := by omega
    generalize n / 2 ^ 32 = x0 at *
    by_cases h1 : 2 ^ 16 ≤ x0
    · have g1 : (x0 : Int) ≥ 65536 := by omega
      have e1 := lenF_div x0 16 (by omega) h1
      have q1 := fdivN x0 16 (by omega)
      have l1 : x0 / 2 ^ 16 < 2 ^ 16 := by omega
      generalize x0 / 2 ^ 16 = x1 at *
      by_cases h2 : 2 ^ 8 ≤ x1
      · have g2 : (x1 : Int) ≥ 256 := by omega
        have e2 := lenF_div x1 8 (by omega) h2
        have q2 := fdivN x1 8 (by omega)
        have l2 : x1 / 2 ^ 8 < 2 ^ 8 := by omega
        generalize x1 / 2 ^ 8 = x2 at *
        simp -implicitDefEqProofs only [go_sem, ↓reduceIte, Nat.reduceEqDiff, Nat.reduceAdd, Nat.reduceMul, Nat.reduceLT, Nat.reduceLeDiff, reduceCtorEq, Int.reduceLT, Int.reduceLE, Int.reduceToNat, Int.reduceAdd, Int.reduceSub, Int.reduceNeg, Nat.reduceSub, Int.reduceEq, Int.reduceNe, Int.reduceGT, Int.reduceGE, g0, q0, g1, q1, g2, q2]
        rw [w_u8 (by omega) (by omega), el_tab (f := lenF) 9 .u8 _ (by kernel_rfl) (by kernel_rfl) (by omega)]
        have := (lenF_le x2 64 (by omega)).2 (by omega)
        simp -implicitDefEqProofs only [go_sem, ↓reduceIte, Nat.reduceEqDiff, Nat.reduceAdd, Nat.reduceMul, Nat.reduceLT, Nat.reduceLeDiff, reduceCtorEq, Int.reduceLT, Int.reduceLE, Int.reduceToNat, Int.reduceAdd, Int.reduceSub, Int.reduceNeg, Nat.reduceSub, Int.reduceEq, Int.reduceNe, Int.reduceGT, Int.reduceGE, g0, q0, g1, q1, g2, q2, Tryd.results187]
        rw [show IntKind.i64.wrap ((lenF x2 : Nat) : Int) = lenF x2 from w_i64 (by omega) (by omega), w_i64 (by omega) (by omega)]
        congr 1; omega
      · have g2 : ¬ (x1 : Int) ≥ 256 := by omega
        simp -implicitDefEqProofs only [go_sem, ↓reduceIte, Nat.reduceEqDiff, Nat.reduceAdd, Nat.reduceMul, Nat.reduceLT, Nat.reduceLeDiff, reduceCtorEq, Int.reduceLT, Int.reduceLE, Int.reduceToNat, Int.reduceAdd, Int.reduceSub, Int.reduceNeg, Nat.reduceSub, Int.reduceEq, Int.reduceNe, Int.reduceGT, Int.reduceGE, g0, q0, g1, q1, g2]
        rw [w_u8 (by omega) (by omega), el_tab (f := lenF) 9 .u8 _ (by kernel_rfl) (by kernel_rfl) (by omega)]
        have := (lenF_le x1 64 (by omega)).2 (by omega)
        simp -implicitDefEqProofs only [go_sem, ↓reduceIte, Nat.reduceEqDiff, Nat.reduceAdd, Nat.reduceMul, Nat.reduceLT, Nat.reduceLeDiff, reduceCtorEq, Int.reduceLT, Int.reduceLE, Int.reduceToNat, Int.reduceAdd, Int.reduceSub, Int.reduceNeg, Nat.reduceSub, Int.reduceEq, Int.reduceNe, Int.reduceGT, Int.reduceGE, g0, q0, g1, q1, g2, Tryd.results187]
        rw [show IntKind.i64.wrap ((lenF x1 : Nat) : Int) = lenF x1 from w_i64 (by omega) (by omega), w_i64 (by omega) (by omega)]
        congr 1; omega
    · have g1 : ¬ (x0 : Int) ≥ 65536 := by omega
      by_cases h2 : 2 ^ 8 ≤ x0
      · have g2 : (x0 : Int) ≥ 256 := by omega
        have e2 := lenF_div x0 8 (by omega) h2
        have q2 := fdivN x0 8 (by omega)
        have l2 : x0 / 2 ^ 8 < 2 ^ 8 := by omega
        generalize x0 / 2 ^ 8 = x2 at *
        simp -implicitDefEqProofs only [go_sem, ↓reduceIte, Nat.reduceEqDiff, Nat.reduceAdd, Nat.reduceMul, Nat.reduceLT, Nat.reduceLeDiff, reduceCtorEq, Int.reduceLT, Int.reduceLE, Int.reduceToNat, Int.reduceAdd, Int.reduceSub, Int.reduceNeg, Nat.reduceSub, Int.reduceEq, Int.reduceNe, Int.reduceGT, Int.reduceGE, g0, q0, g1, g2, q2]
        rw [w_u8 (by omega) (by omega), el_tab (f := lenF) 9 .u8 _ (by kernel_rfl) (by kernel_rfl) (by omega)]
        have := (lenF_le x2 64 (by omega)).2 (by omega)
        simp -implicitDefEqProofs only [go_sem, ↓reduceIte, Nat.reduceEqDiff, Nat.reduceAdd, Nat.reduceMul, Nat.reduceLT, Nat.reduceLeDiff, reduceCtorEq, Int.reduceLT, Int.reduceLE, Int.reduceToNat, Int.reduceAdd, Int.reduceSub, Int.reduceNeg, Nat.reduceSub, Int.reduceEq, Int.reduceNe, Int.reduceGT, Int.reduceGE, g0, q0, g1, g2, q2, Tryd.results187]
        rw [show IntKind.i64.wrap ((lenF x2 : Nat) : Int) = lenF x2 from w_i64 (by omega) (by omega), w_i64 (by omega) (by omega)]
        congr 1; omega
      · have g2 : ¬ (x0 : Int) ≥ 256 := by omega
        simp -implicitDefEqProofs only [go_sem, ↓reduceIte, Nat.reduceEqDiff, Nat.reduceAdd, Nat.reduceMul, Nat.reduceLT, Nat.reduceLeDiff, reduceCtorEq, Int.reduceLT, Int.reduceLE, Int.reduceToNat, Int.reduceAdd, Int.reduceSub, Int.reduceNeg, Nat.reduceSub, Int.reduceEq, Int.reduceNe, Int.reduceGT, Int.reduceGE, g0, q0, g1, g2]
        rw [w_u8 (by omega) (by omega), el_tab (f := lenF) 9 .u8 _ (by kernel_rfl) (by kernel_rfl) (by omega)]
        have := (lenF_le x0 64 (by omega)).2 (by omega)
        simp -implicitDefEqProofs only [go_sem, ↓reduceIte, Nat.reduceEqDiff, Nat.reduceAdd, Nat.reduceMul, Nat.reduceLT, Nat.reduceLeDiff, reduceCtorEq, Int.reduceLT, Int.reduceLE, Int.reduceToNat, Int.reduceAdd, Int.reduceSub, Int.reduceNeg, Nat.reduceSub, Int.reduceEq, Int.reduceNe, Int.reduceGT, Int.reduceGE, g0, q0, g1, g2, Tryd.results187]
        rw [show IntKind.i64.wrap ((lenF x0 : Nat) : Int) = lenF x0 from w_i64 (by omega) (by omega), w_i64 (by omega) (by omega)]
        congr 1; omega
  · have g0 : ¬ (n : Int) ≥ 4294967296 := by omega
    by_cases h1 : 2 ^ 16 ≤ n
    · have g1 : (n : Int) ≥ 65536 := by omega
      have e1 := lenF_div n 16 (by omega) h1
      have q1 := fdivN n 16 (by omega)
      have l1 : n / 2 ^ 16 < 2 ^ 16 := by omega
      generalize n / 2 ^ 16 = x1 at *
      by_cases h2 : 2 ^ 8 ≤ x1
      · have g2 : (x1 : Int) ≥ 256 := by omega
        have e2 := lenF_div x1 8 (by omega) h2
        have q2 := fdivN x1 8 (by omega)
        have l2 : x1 / 2 ^ 8 < 2 ^ 8 := by omega
        generalize x1 / 2 ^ 8 = x2 at *
        simp -implicitDefEqProofs only [go_sem, ↓reduceIte, Nat.reduceEqDiff, Nat.reduceAdd, Nat.reduceMul, Nat.reduceLT, Nat.reduceLeDiff, reduceCtorEq, Int.reduceLT, Int.reduceLE, Int.reduceToNat, Int.reduceAdd, Int.reduceSub, Int.reduceNeg, Nat.reduceSub, Int.reduceEq, Int.reduceNe, Int.reduceGT, Int.reduceGE, g0, g1, q1, g2, q2]
        rw [w_u8 (by omega) (by omega), el_tab (f := lenF) 9 .u8 _ (by kernel_rfl) (by kernel_rfl) (by omega)]
        have := (lenF_le x2 64 (by omega)).2 (by omega)
        simp -implicitDefEqProofs only [go_sem, ↓reduceIte, Nat.reduceEqDiff, Nat.reduceAdd, Nat.reduceMul, Nat.reduceLT, Nat.reduceLeDiff, reduceCtorEq, Int.reduceLT, Int.reduceLE, Int.reduceToNat, Int.reduceAdd, Int.reduceSub, Int.reduceNeg, Nat.reduceSub, Int.reduceEq, Int.reduceNe, Int.reduceGT, Int.reduceGE, g0, g1, q1, g2, q2, Tryd.results187]
        rw [show IntKind.i64.wrap ((lenF x2 : Nat) : Int) = lenF x2 from w_i64 (by omega) (by omega), w_i64 (by omega) (by omega)]
        congr 1; omega
      · have g2 : ¬ (x1 : Int) ≥ 256 := by omega
        simp -implicitDefEqProofs only [go_sem, ↓reduceIte, Nat.reduceEqDiff, Nat.reduceAdd, Nat.reduceMul, Nat.reduceLT, Nat.reduceLeDiff, reduceCtorEq, Int.reduceLT, Int.reduceLE, Int.reduceToNat, Int.reduceAdd, Int.reduceSub, Int.reduceNeg, Nat.reduceSub, Int.reduceEq, Int.reduceNe, Int.reduceGT, Int.reduceGE, g0, g1, q1, g2]
        rw [w_u8 (by omega) (by omega), el_tab (f := lenF) 9 .u8 _ (by kernel_rfl) (by kernel_rfl) (by omega)]
        have := (lenF_le x1 64 (by omega)).2 (by omega)
        simp -implicitDefEqProofs only [go_sem, ↓reduceIte, Nat.reduceEqDiff, Nat.reduceAdd, Nat.reduceMul, Nat.reduceLT, Nat.reduceLeDiff, reduceCtorEq, Int.reduceLT, Int.reduceLE, Int.reduceToNat, Int.reduceAdd, Int.reduceSub, Int.reduceNeg, Nat.reduceSub, Int.reduceEq, Int.reduceNe, Int.reduceGT, Int.reduceGE, g0, g1, q1, g2, Tryd.results187]
        rw [show IntKind.i64.wrap ((lenF x1 : Nat) : Int) = lenF x1 from w_i64 (by omega) (by omega), w_i64 (by omega) (by omega)]
        congr 1; omega
    · have g1 : ¬ (n : Int) ≥ 65536 := by omega
      by_cases h2 : 2 ^ 8 ≤ n
      · have g2 : (n : Int) ≥ 256 := by omega
        have e2 := lenF_div n 8 (by omega) h2
        have q2 := fdivN n 8 (by omega)
        have l2 : n / 2 ^ 8 < 2 ^ 8 := by omega
        generalize n / 2 ^ 8 = x2 at *
        simp -implicitDefEqProofs only [go_sem, ↓reduceIte, Nat.reduceEqDiff, Nat.reduceAdd, Nat.reduceMul, Nat.reduceLT, Nat.reduceLeDiff, reduceCtorEq, Int.reduceLT, Int.reduceLE, Int.reduceToNat, Int.reduceAdd, Int.reduceSub, Int.reduceNeg, Nat.reduceSub, Int.reduceEq, Int.reduceNe, Int.reduceGT, Int.reduceGE, g0, g1, g2, q2]
        rw [w_u8 (by omega) (by omega), el_tab (f := lenF) 9 .u8 _ (by kernel_rfl) (by kernel_rfl) (by omega)]
        have := (lenF_le x2 64 (by omega)).2 (by omega)
        simp -implicitDefEqProofs only [go_sem, ↓reduceIte, Nat.reduceEqDiff, Nat.reduceAdd, Nat.reduceMul, Nat.reduceLT, Nat.reduceLeDiff, reduceCtorEq, Int.reduceLT, Int.reduceLE, Int.reduceToNat, Int.reduceAdd, Int.reduceSub, Int.reduceNeg, Nat.reduceSub, Int.reduceEq, Int.reduceNe, Int.reduceGT, Int.reduceGE, g0, g1, g2, q2, Tryd.results187]
        rw [show IntKind.i64.wrap ((lenF x2 : Nat) : Int) = lenF x2 from w_i64 (by omega) (by omega), w_i64 (by omega) (by omega)]
        congr 1; omega
      · have g2 : ¬ (n : Int) ≥ 256 := by omega
        simp -implicitDefEqProofs only [go_sem, ↓reduceIte, Nat.reduceEqDiff, Nat.reduceAdd, Nat.reduceMul, Nat.reduceLT, Nat.reduceLeDiff, reduceCtorEq, Int.reduceLT, Int.reduceLE, Int.reduceToNat, Int.reduceAdd, Int.reduceSub, Int.reduceNeg, Nat.reduceSub, Int.reduceEq, Int.reduceNe, Int.reduceGT, Int.reduceGE, g0, g1, g2]
        rw [w_u8 (by omega) (by omega), el_tab (f := lenF) 9 .u8 _ (by kernel_rfl) (by kernel_rfl) (by omega)]
        have := (lenF_le n 64 (by omega)).2 (by omega)
        simp -implicitDefEqProofs only [go_sem, ↓reduceIte, Nat.reduceEqDiff, Nat.reduceAdd, Nat.reduceMul, Nat.reduceLT, Nat.reduceLeDiff, reduceCtorEq, Int.reduceLT, Int.reduceLE, Int.reduceToNat, Int.reduceAdd, Int.reduceSub, Int.reduceNeg, Nat.reduceSub, Int.reduceEq, Int.reduceNe, Int.reduceGT, Int.reduceGE, g0, g1, g2, Tryd.results187]
        rw [show IntKind.i64.wrap ((lenF n : Nat) : Int) = lenF n from w_i64 (by omega) (by omega), w_i64 (by omega) (by omega)]
        congr 1; omega
end Go.Proofs.Tryd
