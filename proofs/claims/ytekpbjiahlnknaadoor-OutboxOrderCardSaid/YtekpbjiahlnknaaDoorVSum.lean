/- The sum of bytes: some number that hangs on them alone; sealed bytes and their opening. Its conditions: no more than 2^40 bytes. -/
import Derived.Test.YtekpbjiahlnknaaDoorVBytes
namespace Go.Proofs.Tryd
open Go.H
set_option maxRecDepth 100000
set_option linter.unusedSimpArgs false
set_option linter.unusedVariables false

def turnF (n : Int) : Int :=
  if IntKind.u32.wrap ↑(BitVec.ofInt IntKind.u32.bits n &&& BitVec.ofInt IntKind.u32.bits 2147483648).toNat = 0 then IntKind.u32.wrap (n * 2 ^ min 1 IntKind.u32.bits)
  else IntKind.u32.wrap ↑(BitVec.ofInt IntKind.u32.bits (IntKind.u32.wrap (n * 2 ^ min 1 IntKind.u32.bits)) ^^^ BitVec.ofInt IntKind.u32.bits 79764919).toNat

theorem turn_calls (h : Heap) (n : Int) : CallsH Tryd.prog 236 #[.int .u32 n] h (fun r h' => r = .int .u32 (turnF n) ∧ h' = h) := by
  refine CallsH.of_code (args := [_]) Tryd.func236 rfl (by kernel_rfl) ?_
  by_cases hz : IntKind.u32.wrap ↑(BitVec.ofInt IntKind.u32.bits n &&& BitVec.ofInt IntKind.u32.bits 2147483648).toNat = 0
  · simp -implicitDefEqProofs only [go_sem, ↓reduceIte, Nat.reduceEqDiff, Nat.reduceAdd, Nat.reduceMul, Nat.reduceLT, Nat.reduceLeDiff, reduceCtorEq, Int.reduceLT, Int.reduceLE, Int.reduceToNat, Int.reduceAdd, Int.reduceSub, Int.reduceNeg, Nat.reduceSub, Int.reduceEq, Int.reduceNe, Int.reduceGT, Int.reduceGE, hz, Tryd.results236, turnF]
  · simp -implicitDefEqProofs only [go_sem, ↓reduceIte, Nat.reduceEqDiff, Nat.reduceAdd, Nat.reduceMul, Nat.reduceLT, Nat.reduceLeDiff, reduceCtorEq, Int.reduceLT, Int.reduceLE, Int.reduceToNat, Int.reduceAdd, Int.reduceSub, Int.reduceNeg, Nat.reduceSub, Int.reduceEq, Int.reduceNe, Int.reduceGT, Int.reduceGE, hz, Tryd.results236, turnF]

def turns : Nat → Int → Int
  | 0, n => n
  | k + 1, n => turnF (turns k n)
def entryF (i : Nat) : Int := turns 8 (IntKind.u32.wrap (IntKind.u32.wrap i * 2 ^ min 24 IntKind.u32.bits))
def tabF (i : Nat) : List Value := (List.range i).map (fun j => .int .u32 (entryF j)) ++ List.replicate (256 - i) (.int .u32 0)

@[go_sem] theorem hz350 : zeroT Tryd.prog 350 = some (.agg (List.replicate 256 (Value.int .u32 0)).toArray) := by kernel_rfl

theorem tabF_length (i : Nat) (hi : i ≤ 256) : (tabF i).length = 256 := by simp [tabF]; omega
theorem tabF_put (i : Nat) (hi : i < 256) : putL (tabF i) i [Value.int .u32 (entryF i)] = tabF (i + 1) := by
  apply List.ext_getElem?
  intro j
  rw [putL_get _ _ _ _ (by rw [tabF_length i (by omega)]; simp; omega)]
  simp only [List.length_singleton]
  unfold tabF
  by_cases h1 : i ≤ j ∧ j < i + 1
  · obtain rfl : j = i := by omega
    rw [if_pos h1]
    rw [List.getElem?_append_left (by simp)]
    simp
  · rw [if_neg h1]
    by_cases h2 : j < i
    · rw [List.getElem?_append_left (by simpa using h2), List.getElem?_append_left (by simp; omega)]
      simp [h2, show j < i + 1 from by omega]
    · rw [List.getElem?_append_right (by simp; omega), List.getElem?_append_right (by simp; omega)]
      simp only [List.length_map, List.length_range, List.getElem?_replicate]
      by_cases h3 : j < 256
      · rw [if_pos (by omega), if_pos (by omega)]
      · rw [if_neg (by omega), if_neg (by omega)]

theorem table_calls (h : Heap) : CallsH Tryd.prog 219 #[] h (fun r h' => r = .agg (tabF 256).toArray ∧ Keep h h' []) := by
  refine CallsH.of_code (args := []) Tryd.func219 rfl (by kernel_rfl) ?_
  simp -implicitDefEqProofs only [go_sem, ↓reduceIte, Nat.reduceEqDiff, Nat.reduceAdd, Nat.reduceMul, Nat.reduceLT, Nat.reduceLeDiff, reduceCtorEq, Int.reduceLT, Int.reduceLE, Int.reduceToNat, Int.reduceAdd, Int.reduceSub, Int.reduceNeg, Nat.reduceSub, Int.reduceEq, Int.reduceNe, Int.reduceGT, Int.reduceGE, Tryd.results219]
  refine loop_dec (fun n e h' => ∃ i : Nat, n = 256 - i ∧ i ≤ 256 ∧ e 4 = .int .i64 i ∧ e 0 = .pointer (some ⟨h.size, 0, none⟩) ∧ e 1 = .pointer (some ⟨h.size + 1, 0, none⟩) ∧
    h' = (h.push (Blk 350 (List.replicate 256 (Value.int .u32 0)))).push (Blk 350 (tabF i))) 256 ⟨0, by simp, by omega, rfl, rfl, by simp [updE], by simp [tabF, Value.cells]⟩ ?_
  rintro n e _ ⟨i, rfl, hi, e4, e0, e1, rfl⟩
  by_cases hlt : i < 256
  · have hlt' : (i : Int) < 256 := by omega
    simp -implicitDefEqProofs only [go_sem, ↓reduceIte, Nat.reduceEqDiff, Nat.reduceAdd, Nat.reduceMul, Nat.reduceLT, Nat.reduceLeDiff, reduceCtorEq, Int.reduceLT, Int.reduceLE, Int.reduceToNat, Int.reduceAdd, Int.reduceSub, Int.reduceNeg, Nat.reduceSub, Int.reduceEq, Int.reduceNe, Int.reduceGT, Int.reduceGE, e4, e0, e1, hlt']
    refine loop_dec (fun n e h' => ∃ j : Nat, n = 8 - j ∧ j ≤ 8 ∧ e 10 = .int .i64 j ∧ e 4 = .int .i64 i ∧ e 2 = .int .i64 i ∧ e 3 = .int .u32 (turns j (IntKind.u32.wrap (IntKind.u32.wrap i * 2 ^ min 24 IntKind.u32.bits))) ∧ e 0 = .pointer (some ⟨h.size, 0, none⟩) ∧ e 1 = .pointer (some ⟨h.size + 1, 0, none⟩) ∧
      h' = (h.push (Blk 350 (List.replicate 256 (Value.int .u32 0)))).push (Blk 350 (tabF i))) 8 ⟨0, by simp, by omega, rfl, by simp -implicitDefEqProofs only [go_sem, ↓reduceIte, Nat.reduceEqDiff, Nat.reduceAdd, Nat.reduceMul, Nat.reduceLT, Nat.reduceLeDiff, reduceCtorEq, Int.reduceLT, Int.reduceLE, Int.reduceToNat, Int.reduceAdd, Int.reduceSub, Int.reduceNeg, Nat.reduceSub, Int.reduceEq, Int.reduceNe, Int.reduceGT, Int.reduceGE, e4], by simp -implicitDefEqProofs only [go_sem, ↓reduceIte, Nat.reduceEqDiff, Nat.reduceAdd, Nat.reduceMul, Nat.reduceLT, Nat.reduceLeDiff, reduceCtorEq, Int.reduceLT, Int.reduceLE, Int.reduceToNat, Int.reduceAdd, Int.reduceSub, Int.reduceNeg, Nat.reduceSub, Int.reduceEq, Int.reduceNe, Int.reduceGT, Int.reduceGE, e4], rfl, by simp -implicitDefEqProofs only [go_sem, ↓reduceIte, Nat.reduceEqDiff, Nat.reduceAdd, Nat.reduceMul, Nat.reduceLT, Nat.reduceLeDiff, reduceCtorEq, Int.reduceLT, Int.reduceLE, Int.reduceToNat, Int.reduceAdd, Int.reduceSub, Int.reduceNeg, Nat.reduceSub, Int.reduceEq, Int.reduceNe, Int.reduceGT, Int.reduceGE, e0], by simp -implicitDefEqProofs only [go_sem, ↓reduceIte, Nat.reduceEqDiff, Nat.reduceAdd, Nat.reduceMul, Nat.reduceLT, Nat.reduceLeDiff, reduceCtorEq, Int.reduceLT, Int.reduceLE, Int.reduceToNat, Int.reduceAdd, Int.reduceSub, Int.reduceNeg, Nat.reduceSub, Int.reduceEq, Int.reduceNe, Int.reduceGT, Int.reduceGE, e1], rfl⟩ ?_
    rintro n e _ ⟨j, rfl, hj, e10, e4, e2, e3, e0, e1, rfl⟩
    by_cases hjt : j < 8
    · have hjt' : (j : Int) < 8 := by omega
      simp -implicitDefEqProofs only [go_sem, ↓reduceIte, Nat.reduceEqDiff, Nat.reduceAdd, Nat.reduceMul, Nat.reduceLT, Nat.reduceLeDiff, reduceCtorEq, Int.reduceLT, Int.reduceLE, Int.reduceToNat, Int.reduceAdd, Int.reduceSub, Int.reduceNeg, Nat.reduceSub, Int.reduceEq, Int.reduceNe, Int.reduceGT, Int.reduceGE, e10, e3, hjt']
      refine (turn_calls _ _).mono ?_
      rintro _ _ ⟨rfl, rfl⟩
      simp -implicitDefEqProofs only [go_sem, ↓reduceIte, Nat.reduceEqDiff, Nat.reduceAdd, Nat.reduceMul, Nat.reduceLT, Nat.reduceLeDiff, reduceCtorEq, Int.reduceLT, Int.reduceLE, Int.reduceToNat, Int.reduceAdd, Int.reduceSub, Int.reduceNeg, Nat.reduceSub, Int.reduceEq, Int.reduceNe, Int.reduceGT, Int.reduceGE, e10, e4, e0, e1, e2]
      refine ⟨8 - (j + 1), by omega, j + 1, rfl, by omega, ?_, rfl⟩
      rw [w_i64 (by omega) (by omega)]; rfl
    · obtain rfl : j = 8 := by omega
      have hl := tabF_length i (by omega)
      simp -implicitDefEqProofs only [go_sem, ↓reduceIte, Nat.reduceEqDiff, Nat.reduceAdd, Nat.reduceMul, Nat.reduceLT, Nat.reduceLeDiff, reduceCtorEq, Int.reduceLT, Int.reduceLE, Int.reduceToNat, Int.reduceAdd, Int.reduceSub, Int.reduceNeg, Nat.reduceSub, Int.reduceEq, Int.reduceNe, Int.reduceGT, Int.reduceGE, e10, e4, e0, e1, e2, e3, hlt', Nat.mul_one, Int.toNat_natCast, push_get, hput_get, hput_size, Array.size_push, Nat.left_eq_add, Nat.add_eq_left, Nat.add_left_cancel_iff, Nat.reduceEqDiff, hl, hlt, Nat.succ_le_of_lt]
      refine ⟨256 - (i + 1), by omega, i + 1, rfl, by omega, ?_, ?_⟩
      · rw [w_i64 (by omega) (by omega)]; rfl
      · rw [hput_push (by simp), objPut_Blk, ← tabF_put i hlt]
        rfl
  · obtain rfl : i = 256 := by omega
    have hl := tabF_length 256 (by omega)
    simp -implicitDefEqProofs only [go_sem, ↓reduceIte, Nat.reduceEqDiff, Nat.reduceAdd, Nat.reduceMul, Nat.reduceLT, Nat.reduceLeDiff, reduceCtorEq, Int.reduceLT, Int.reduceLE, Int.reduceToNat, Int.reduceAdd, Int.reduceSub, Int.reduceNeg, Nat.reduceSub, Int.reduceEq, Int.reduceNe, Int.reduceGT, Int.reduceGE, e4, e0, e1, Tryd.results219, push_get, hput_get, hput_size, Array.size_push, Nat.left_eq_add, Nat.add_eq_left, Nat.add_left_cancel_iff, Nat.reduceEqDiff, hl]
    rw [List.take_of_length_le (by omega), wrCells_eq _ _ _ _ _ _ (by intro h0; rw [h0] at hl; simp at hl)]
    have hp : (tabF 256).all plainV = true := by
      unfold tabF
      simp [plainV]
    simp -implicitDefEqProofs only [go_sem, ↓reduceIte, Nat.reduceEqDiff, Nat.reduceAdd, Nat.reduceMul, Nat.reduceLT, Nat.reduceLeDiff, reduceCtorEq, Int.reduceLT, Int.reduceLE, Int.reduceToNat, Int.reduceAdd, Int.reduceSub, Int.reduceNeg, Nat.reduceSub, Int.reduceEq, Int.reduceNe, Int.reduceGT, Int.reduceGE, push_get, hput_get, hput_size, Array.size_push, Nat.left_eq_add, Nat.add_eq_left, Nat.add_left_cancel_iff, Nat.reduceEqDiff, hl, hp, List.length_replicate]
    rw [hput_push_old (by simp), hput_push rfl, objPut_Blk]
    have hput : putL (List.replicate 256 (Value.int .u32 0)) 0 (tabF 256) = tabF 256 := by
      apply List.ext_getElem?
      intro j
      rw [putL_get _ _ _ _ (by simp [hl])]
      by_cases h1 : j < 256
      · rw [if_pos (by omega)]; simp
      · rw [if_neg (by omega), List.getElem?_eq_none (by simp; omega), List.getElem?_eq_none (by omega)]
    rw [hput]
    simp -implicitDefEqProofs only [go_sem, ↓reduceIte, Nat.reduceEqDiff, Nat.reduceAdd, Nat.reduceMul, Nat.reduceLT, Nat.reduceLeDiff, reduceCtorEq, Int.reduceLT, Int.reduceLE, Int.reduceToNat, Int.reduceAdd, Int.reduceSub, Int.reduceNeg, Nat.reduceSub, Int.reduceEq, Int.reduceNe, Int.reduceGT, Int.reduceGE, push_get, hput_get, hput_size, Array.size_push, Nat.left_eq_add, Nat.add_eq_left, Nat.add_left_cancel_iff, Nat.reduceEqDiff, hl, List.take_of_length_le]
    exact ((Keep.refl _ _).push _).push _

/-- What a byte makes of a sum, what bytes make of it. -/
def stepF (n : Int) (c : Nat) : Int :=
  IntKind.u32.wrap ↑(BitVec.ofInt IntKind.u32.bits (IntKind.u32.wrap (n * 2 ^ min 8 IntKind.u32.bits)) ^^^ BitVec.ofInt IntKind.u32.bits (entryF (IntKind.u8.wrap ↑(BitVec.ofInt IntKind.u8.bits (IntKind.u8.wrap (n.fdiv (2 ^ min 24 IntKind.u32.bits))) ^^^ BitVec.ofInt IntKind.u8.bits c).toNat).toNat)).toNat
def sumF (n : Int) (l : List Nat) : Int := l.foldl stepF n

theorem Add_calls {h : Heap} {v : Value} {l : List Nat} (hv : Bs h v l) (hl : l.length ≤ 1099511627776) (n : Int) : CallsH Tryd.prog 200 #[.agg #[.int .u32 n, .int .i64 0], v] h
    (fun r h' => r = .agg #[.int .u32 (sumF n l), .int .i64 l.length] ∧ Keep h h' []) := by
  have hv0 := hv
  obtain ⟨a, cap, rfl, h1, h2, h3⟩ := hv.open
  refine CallsH.of_code (args := [_, _]) Tryd.func200 rfl (by kernel_rfl) ?_
  simp -implicitDefEqProofs only [go_sem, ↓reduceIte, Nat.reduceEqDiff, Nat.reduceAdd, Nat.reduceMul, Nat.reduceLT, Nat.reduceLeDiff, reduceCtorEq, Int.reduceLT, Int.reduceLE, Int.reduceToNat, Int.reduceAdd, Int.reduceSub, Int.reduceNeg, Nat.reduceSub, Int.reduceEq, Int.reduceNe, Int.reduceGT, Int.reduceGE, Tryd.results200]
  refine (table_calls _).mono ?_
  rintro _ hh ⟨rfl, k1⟩
  have hl256 := tabF_length 256 (by omega)
  have hp : (tabF 256).all plainV = true := by
    unfold tabF
    simp [plainV]
  simp -implicitDefEqProofs only [go_sem, ↓reduceIte, Nat.reduceEqDiff, Nat.reduceAdd, Nat.reduceMul, Nat.reduceLT, Nat.reduceLeDiff, reduceCtorEq, Int.reduceLT, Int.reduceLE, Int.reduceToNat, Int.reduceAdd, Int.reduceSub, Int.reduceNeg, Nat.reduceSub, Int.reduceEq, Int.reduceNe, Int.reduceGT, Int.reduceGE, hl256]
  rw [wrCells_eq _ _ _ _ _ _ (by intro h0; rw [h0] at hl256; simp at hl256)]
  simp -implicitDefEqProofs only [go_sem, ↓reduceIte, Nat.reduceEqDiff, Nat.reduceAdd, Nat.reduceMul, Nat.reduceLT, Nat.reduceLeDiff, reduceCtorEq, Int.reduceLT, Int.reduceLE, Int.reduceToNat, Int.reduceAdd, Int.reduceSub, Int.reduceNeg, Nat.reduceSub, Int.reduceEq, Int.reduceNe, Int.reduceGT, Int.reduceGE, push_get, hput_get, hput_size, Array.size_push, Nat.left_eq_add, Nat.add_eq_left, Nat.add_left_cancel_iff, Nat.reduceEqDiff, hl256, hp, List.length_replicate]
  have hput : putL (List.replicate 256 (Value.int .u32 0)) 0 (tabF 256) = tabF 256 := by
    apply List.ext_getElem?
    intro j
    rw [putL_get _ _ _ _ (by simp [hl256])]
    by_cases h1 : j < 256
    · rw [if_pos (by omega)]; simp
    · rw [if_neg (by omega), List.getElem?_eq_none (by simp; omega), List.getElem?_eq_none (by omega)]
  rw [hput_push rfl, objPut_Blk, hput]
  have kh : Keep h hh [] := (((Keep.refl h []).push _).push _).trans k1
  have hs1 : h.size + 2 ≤ hh.size := by simpa using k1.size
  have b0 : hh[h.size]? = some (Blk 328 [.int .u32 n, .int .i64 0]) := k1.get (by simp -implicitDefEqProofs only [go_sem, ↓reduceIte, Nat.reduceEqDiff, Nat.reduceAdd, Nat.reduceMul, Nat.reduceLT, Nat.reduceLeDiff, reduceCtorEq, Int.reduceLT, Int.reduceLE, Int.reduceToNat, Int.reduceAdd, Int.reduceSub, Int.reduceNeg, Nat.reduceSub, Int.reduceEq, Int.reduceNe, Int.reduceGT, Int.reduceGE, push_get, hput_get, hput_size, Array.size_push, Nat.left_eq_add, Nat.add_eq_left, Nat.add_left_cancel_iff, Nat.reduceEqDiff]) (by simp)
  have b1 : hh[h.size + 1]? = some (Blk 328 [.int .u32 0, .int .i64 0]) := k1.get (by simp -implicitDefEqProofs only [go_sem, ↓reduceIte, Nat.reduceEqDiff, Nat.reduceAdd, Nat.reduceMul, Nat.reduceLT, Nat.reduceLeDiff, reduceCtorEq, Int.reduceLT, Int.reduceLE, Int.reduceToNat, Int.reduceAdd, Int.reduceSub, Int.reduceNeg, Nat.reduceSub, Int.reduceEq, Int.reduceNe, Int.reduceGT, Int.reduceGE, push_get, hput_get, hput_size, Array.size_push, Nat.left_eq_add, Nat.add_eq_left, Nat.add_left_cancel_iff, Nat.reduceEqDiff]) (by simp)
  refine loop_dec (fun n' e h' => ∃ i : Nat, n' = l.length - i ∧ i ≤ l.length ∧ e 11 = .int .i64 i ∧ e 10 = .int .i64 l.length ∧ e 9 = .slice a l.length cap ∧ e 1 = .slice a l.length cap ∧ e 2 = .pointer (some ⟨h.size, 0, none⟩) ∧ e 4 = .pointer (some ⟨h.size + 1, 0, none⟩) ∧ e 5 = .pointer (some ⟨hh.size, 0, none⟩) ∧
    Keep h h' [] ∧ h'[h.size]? = some (Blk 328 [.int .u32 (sumF n (l.take i)), .int .i64 0]) ∧ h'[h.size + 1]? = some (Blk 328 [.int .u32 0, .int .i64 0]) ∧ h'[hh.size]? = some (Blk 350 (tabF 256))) l.length
    ⟨0, by simp, by omega, rfl, rfl, rfl, rfl, rfl, by simp [updE], rfl, kh.push _, by rw [push_old (by omega), b0]; rfl, by rw [push_old (by omega), b1], push_new _ _⟩ ?_
  rintro n' e h' ⟨i, rfl, hi, e11, e10, e9, e1, e2, e4, e5, k, c0, c1, c2⟩
  have hsz := k.size
  by_cases hlt : i < l.length
  · have hlt' : (i : Int) < l.length := by omega
    rcases h3 with h3 | ⟨b, o, cs, t, f, rfl, hb, hc⟩
    · subst h3; simp at hlt
    have g1 := hc i hlt
    have hb' := k.get hb (by simp)
    simp -implicitDefEqProofs only [go_sem, ↓reduceIte, Nat.reduceEqDiff, Nat.reduceAdd, Nat.reduceMul, Nat.reduceLT, Nat.reduceLeDiff, reduceCtorEq, Int.reduceLT, Int.reduceLE, Int.reduceToNat, Int.reduceAdd, Int.reduceSub, Int.reduceNeg, Nat.reduceSub, Int.reduceEq, Int.reduceNe, Int.reduceGT, Int.reduceGE, e11, e10, e9, e2, e4, e5, hlt', Nat.mul_one, Int.toNat_natCast, hb', g1]
    refine drawH_reads (.read 0 false (.read 1 true (.read 2 false (.read 3 false (.read 4 true (.read 5 false (.read 6 false (.read 7 false (.read 8 false (.read 9 false (.read 10 true (.read 11 false (.read 12 false (.act 13 true .done)))))))))))))) (by kernel_rfl) (by kernel_rfl) ?_
    simp -implicitDefEqProofs only [go_sem, ↓reduceIte, Nat.reduceEqDiff, Nat.reduceAdd, Nat.reduceMul, Nat.reduceLT, Nat.reduceLeDiff, reduceCtorEq, Int.reduceLT, Int.reduceLE, Int.reduceToNat, Int.reduceAdd, Int.reduceSub, Int.reduceNeg, Nat.reduceSub, Int.reduceEq, Int.reduceNe, Int.reduceGT, Int.reduceGE, e11, e10, e9, e2, e4, e5, hlt', Nat.mul_one, Int.toNat_natCast, forall_eq, c0, c2]
    have hix : ∀ z : Int, 0 ≤ IntKind.u8.wrap z ∧ IntKind.u8.wrap z < 256 := fun z => by rw [wrap_u8]; omega
    refine ⟨(hix _).1, (hix _).2, ?_⟩
    generalize hz : (IntKind.u8.wrap ↑(BitVec.ofInt IntKind.u8.bits (IntKind.u8.wrap ((sumF n (List.take i l)).fdiv (2 ^ min 24 IntKind.u32.bits))) ^^^ BitVec.ofInt IntKind.u8.bits ↑(l.getD i 0)).toNat).toNat = z
    have hzl : z < 256 := by have := hix ↑(BitVec.ofInt IntKind.u8.bits (IntKind.u8.wrap ((sumF n (List.take i l)).fdiv (2 ^ min 24 IntKind.u32.bits))) ^^^ BitVec.ofInt IntKind.u8.bits ↑(l.getD i 0)).toNat; omega
    have hget : (tabF 256)[z]? = some (.int .u32 (entryF z)) := by
      unfold tabF
      rw [List.getElem?_append_left (by simpa using hzl)]
      simp [hzl]
    simp -implicitDefEqProofs only [go_sem, ↓reduceIte, Nat.reduceEqDiff, Nat.reduceAdd, Nat.reduceMul, Nat.reduceLT, Nat.reduceLeDiff, reduceCtorEq, Int.reduceLT, Int.reduceLE, Int.reduceToNat, Int.reduceAdd, Int.reduceSub, Int.reduceNeg, Nat.reduceSub, Int.reduceEq, Int.reduceNe, Int.reduceGT, Int.reduceGE, hget, c0]
    refine ⟨l.length - (i + 1), by omega, i + 1, rfl, by omega, ?_, e1, ?_, ?_, ?_, ?_⟩
    · rw [w_i64 (by omega) (by omega)]; rfl
    · exact k.hput (.inr (Nat.le_refl _)) _ _
    · have : sumF n (l.take (i + 1)) = stepF (sumF n (l.take i)) (l.getD i 0) := by
        unfold sumF
        rw [List.take_add_one, List.getElem?_eq_getElem hlt, Option.toList_some, List.foldl_append]
        simp [List.getD, hlt]
      rw [this, stepF, hz]
    · simp -implicitDefEqProofs only [go_sem, ↓reduceIte, Nat.reduceEqDiff, Nat.reduceAdd, Nat.reduceMul, Nat.reduceLT, Nat.reduceLeDiff, reduceCtorEq, Int.reduceLT, Int.reduceLE, Int.reduceToNat, Int.reduceAdd, Int.reduceSub, Int.reduceNeg, Nat.reduceSub, Int.reduceEq, Int.reduceNe, Int.reduceGT, Int.reduceGE, push_get, hput_get, hput_size, Array.size_push, Nat.left_eq_add, Nat.add_eq_left, Nat.add_left_cancel_iff, Nat.reduceEqDiff, c1]
    · rw [hput_ne (by omega), c2]
  · obtain rfl : i = l.length := by omega
    simp -implicitDefEqProofs only [go_sem, ↓reduceIte, Nat.reduceEqDiff, Nat.reduceAdd, Nat.reduceMul, Nat.reduceLT, Nat.reduceLeDiff, reduceCtorEq, Int.reduceLT, Int.reduceLE, Int.reduceToNat, Int.reduceAdd, Int.reduceSub, Int.reduceNeg, Nat.reduceSub, Int.reduceEq, Int.reduceNe, Int.reduceGT, Int.reduceGE, e11, e10, e9, e1, e2, e4, c0, c1, c2, Tryd.results200, Int.lt_irrefl, push_get, hput_get, hput_size, Array.size_push, Nat.left_eq_add, Nat.add_eq_left, Nat.add_left_cancel_iff, Nat.reduceEqDiff, List.take_length]
    rw [w_i64 (by omega) (by omega), Int.zero_add]
    exact ⟨rfl, (k.hput (.inr (Nat.le_refl _)) _ _).hput (.inr (by omega)) _ _⟩

/-- The sum of bytes. -/
def crcF (l : List Nat) : Int := IntKind.u32.wrap ↑(BitVec.ofInt IntKind.u32.bits (if IntKind.u32.signed = true then -1 else IntKind.u32.max) ^^^ BitVec.ofInt IntKind.u32.bits (sumF 4294967295 l)).toNat

theorem New_calls (h : Heap) : CallsH Tryd.prog 199 #[] h (fun r h' => r = .agg #[.int .u32 4294967295, .int .i64 0] ∧ Keep h h' []) := by
  refine CallsH.of_code (args := []) Tryd.func199 rfl (by kernel_rfl) ?_
  simp -implicitDefEqProofs only [go_sem, ↓reduceIte, Nat.reduceEqDiff, Nat.reduceAdd, Nat.reduceMul, Nat.reduceLT, Nat.reduceLeDiff, reduceCtorEq, Int.reduceLT, Int.reduceLE, Int.reduceToNat, Int.reduceAdd, Int.reduceSub, Int.reduceNeg, Nat.reduceSub, Int.reduceEq, Int.reduceNe, Int.reduceGT, Int.reduceGE, Tryd.results199, push_get, hput_get, hput_size, Array.size_push, Nat.left_eq_add, Nat.add_eq_left, Nat.add_left_cancel_iff, Nat.reduceEqDiff]
  exact ((Keep.refl _ _).push _).hput (.inr (Nat.le_refl _)) _ _

theorem Sum_calls (h : Heap) (n m : Int) : CallsH Tryd.prog 201 #[.agg #[.int .u32 n, .int .i64 m]] h
    (fun r h' => r = .int .u32 (IntKind.u32.wrap ↑(BitVec.ofInt IntKind.u32.bits (if IntKind.u32.signed = true then -1 else IntKind.u32.max) ^^^ BitVec.ofInt IntKind.u32.bits n).toNat) ∧ Keep h h' []) := by
  refine CallsH.of_code (args := [_]) Tryd.func201 rfl (by kernel_rfl) ?_
  simp -implicitDefEqProofs only [go_sem, ↓reduceIte, Nat.reduceEqDiff, Nat.reduceAdd, Nat.reduceMul, Nat.reduceLT, Nat.reduceLeDiff, reduceCtorEq, Int.reduceLT, Int.reduceLE, Int.reduceToNat, Int.reduceAdd, Int.reduceSub, Int.reduceNeg, Nat.reduceSub, Int.reduceEq, Int.reduceNe, Int.reduceGT, Int.reduceGE, Tryd.results201, push_get, hput_get, hput_size, Array.size_push, Nat.left_eq_add, Nat.add_eq_left, Nat.add_left_cancel_iff, Nat.reduceEqDiff]
  exact (Keep.refl _ _).push _

theorem Of_calls {h : Heap} {v : Value} {l : List Nat} (hv : Bs h v l) (hl : l.length ≤ 1099511627776) : CallsH Tryd.prog 157 #[v] h (fun r h' => r = .int .u32 (crcF l) ∧ Keep h h' []) := by
  refine CallsH.of_code (args := [_]) Tryd.func157 rfl (by kernel_rfl) ?_
  simp -implicitDefEqProofs only [go_sem, ↓reduceIte, Nat.reduceEqDiff, Nat.reduceAdd, Nat.reduceMul, Nat.reduceLT, Nat.reduceLeDiff, reduceCtorEq, Int.reduceLT, Int.reduceLE, Int.reduceToNat, Int.reduceAdd, Int.reduceSub, Int.reduceNeg, Nat.reduceSub, Int.reduceEq, Int.reduceNe, Int.reduceGT, Int.reduceGE, Tryd.results157]
  refine (New_calls _).mono ?_
  rintro _ h1 ⟨rfl, k1⟩
  try simp -implicitDefEqProofs only [go_sem, ↓reduceIte, Nat.reduceEqDiff, Nat.reduceAdd, Nat.reduceMul, Nat.reduceLT, Nat.reduceLeDiff, reduceCtorEq, Int.reduceLT, Int.reduceLE, Int.reduceToNat, Int.reduceAdd, Int.reduceSub, Int.reduceNeg, Nat.reduceSub, Int.reduceEq, Int.reduceNe, Int.reduceGT, Int.reduceGE, Tryd.results157]
  refine (Add_calls (hv.keep0 k1) hl _).mono ?_
  rintro _ h2 ⟨rfl, k2⟩
  try simp -implicitDefEqProofs only [go_sem, ↓reduceIte, Nat.reduceEqDiff, Nat.reduceAdd, Nat.reduceMul, Nat.reduceLT, Nat.reduceLeDiff, reduceCtorEq, Int.reduceLT, Int.reduceLE, Int.reduceToNat, Int.reduceAdd, Int.reduceSub, Int.reduceNeg, Nat.reduceSub, Int.reduceEq, Int.reduceNe, Int.reduceGT, Int.reduceGE, Tryd.results157]
  refine (Sum_calls _ _ _).mono ?_
  rintro _ h3 ⟨rfl, k3⟩
  try simp -implicitDefEqProofs only [go_sem, ↓reduceIte, Nat.reduceEqDiff, Nat.reduceAdd, Nat.reduceMul, Nat.reduceLT, Nat.reduceLeDiff, reduceCtorEq, Int.reduceLT, Int.reduceLE, Int.reduceToNat, Int.reduceAdd, Int.reduceSub, Int.reduceNeg, Nat.reduceSub, Int.reduceEq, Int.reduceNe, Int.reduceGT, Int.reduceGE, Tryd.results157, crcF]
  exact (k1.trans k2).trans k3

/-- The four bytes of a sum. -/
def crcB (l : List Nat) : List Nat := [(IntKind.u8.wrap ((crcF l).fdiv (2 ^ min 24 IntKind.u32.bits))).toNat, (IntKind.u8.wrap ((crcF l).fdiv (2 ^ min 16 IntKind.u32.bits))).toNat, (IntKind.u8.wrap ((crcF l).fdiv (2 ^ min 8 IntKind.u32.bits))).toNat, (IntKind.u8.wrap (crcF l)).toNat]
theorem crcB_length (l : List Nat) : (crcB l).length = 4 := rfl

theorem Seal_calls {h : Heap} {v : Value} {l : List Nat} (hv : Bs h v l) (hl : l.length ≤ 549755813888) : CallsH Tryd.prog 113 #[v] h (fun r h' => Bo 5 h' r (l ++ crcB l) ∧ Keep h h' [] ∧ Fresh h r) := by
  refine CallsH.of_code (args := [_]) Tryd.func113 rfl (by kernel_rfl) ?_
  simp -implicitDefEqProofs only [go_sem, ↓reduceIte, Nat.reduceEqDiff, Nat.reduceAdd, Nat.reduceMul, Nat.reduceLT, Nat.reduceLeDiff, reduceCtorEq, Int.reduceLT, Int.reduceLE, Int.reduceToNat, Int.reduceAdd, Int.reduceSub, Int.reduceNeg, Nat.reduceSub, Int.reduceEq, Int.reduceNe, Int.reduceGT, Int.reduceGE, Tryd.results113]
  refine (Of_calls hv (by omega)).mono ?_
  rintro _ h1 ⟨rfl, k1⟩
  try simp -implicitDefEqProofs only [go_sem, ↓reduceIte, Nat.reduceEqDiff, Nat.reduceAdd, Nat.reduceMul, Nat.reduceLT, Nat.reduceLeDiff, reduceCtorEq, Int.reduceLT, Int.reduceLE, Int.reduceToNat, Int.reduceAdd, Int.reduceSub, Int.reduceNeg, Nat.reduceSub, Int.reduceEq, Int.reduceNe, Int.reduceGT, Int.reduceGE, Tryd.results113]
  refine (Clip_calls (hv.keep0 k1)).mono ?_
  rintro r h2 ⟨⟨a, rfl, hblk⟩, hr, rfl⟩
  simp -implicitDefEqProofs only [go_sem, ↓reduceIte, Nat.reduceEqDiff, Nat.reduceAdd, Nat.reduceMul, Nat.reduceLT, Nat.reduceLeDiff, reduceCtorEq, Int.reduceLT, Int.reduceLE, Int.reduceToNat, Int.reduceAdd, Int.reduceSub, Int.reduceNeg, Nat.reduceSub, Int.reduceEq, Int.reduceNe, Int.reduceGT, Int.reduceGE, Tryd.results113, List.reduceReplicate, List.flatten_cons, List.flatten_nil, List.cons_append, List.nil_append, List.append_nil, List.length_set]
  have hc : ∀ z : Int, (Value.int .u8 (IntKind.u8.wrap z)) = u8 (IntKind.u8.wrap z).toNat := fun z => by
    have : 0 ≤ IntKind.u8.wrap z := by rw [wrap_u8]; omega
    show _ = Value.int .u8 _
    rw [Int.toNat_of_nonneg this]
  have hb : ∀ z : Int, (IntKind.u8.wrap z).toNat < 256 := fun z => by rw [wrap_u8]; omega
  rw [hc, hc, hc, hc]
  have k2 : Keep h2 (h2.push (Blk 5 ((crcB l).map u8))) [] := (Keep.refl _ _).push _
  refine ap_c (m := crcB l) (hr.keep0 k2) (by rw [crcB_length]; omega) (Bo.block (l := crcB l) (push_new _ _) ?_).bs (by rw [crcB_length]; omega) ?_
  · intro x hx
    simp only [crcB, List.mem_cons, List.not_mem_nil, or_false] at hx
    rcases hx with rfl | rfl | rfl | rfl <;> exact hb _
  · intro v' h' hv' k f
    exact ⟨hv', (k1.trans k2).trans k, fun b hb' => Nat.le_trans (k1.trans k2).size (f b hb')⟩

theorem Open_calls {h : Heap} {v : Value} {l : List Nat} (hv : Bs h v l) (hl : l.length ≤ 549755813888) : CallsH Tryd.prog 119 #[v] h (fun r h' =>
    (if 4 ≤ l.length ∧ l.take (l.length - 4) ++ crcB (l.take (l.length - 4)) = l then ∃ b, r = .tuple #[b, .bool true] ∧ Bo 5 h' b (l.take (l.length - 4)) ∧ Fresh h b else r = .tuple #[.slice none 0 0, .bool false]) ∧ Keep h h' []) := by
  have hv0 := hv
  obtain ⟨a, cap, rfl, h1, h2, h3⟩ := hv.open
  refine CallsH.of_code (args := [_]) Tryd.func119 rfl (by kernel_rfl) ?_
  by_cases h4 : 4 ≤ l.length
  · have h4' : ¬ ((l.length : Int) < 4) := by omega
    have hcut := hv0.cut (lo := 0) (hi := l.length - 4) (mx := cap) (Nat.zero_le _) (by omega) (by omega) (Nat.le_refl _)
    simp only [map_add_zero, Nat.sub_zero, ite_self, Nat.zero_mul, List.drop_zero] at hcut
    have e4 : IntKind.i64.wrap ((l.length : Int) - 4) = ((l.length - 4 : Nat) : Int) := by rw [w_i64 (by omega) (by omega)]; omega
    have hlen : (l.take (l.length - 4)).length = l.length - 4 := by simp
    have hlc : l.length - 4 ≤ cap := by omega
    have hcut' : Bs h (.slice a (l.length - 4) cap) (l.take (l.length - 4)) := hcut
    simp -implicitDefEqProofs only [go_sem, ↓reduceIte, Nat.reduceEqDiff, Nat.reduceAdd, Nat.reduceMul, Nat.reduceLT, Nat.reduceLeDiff, reduceCtorEq, Int.reduceLT, Int.reduceLE, Int.reduceToNat, Int.reduceAdd, Int.reduceSub, Int.reduceNeg, Nat.reduceSub, Int.reduceEq, Int.reduceNe, Int.reduceGT, Int.reduceGE, h4', e4, Int.toNat_natCast, Int.ofNat_le, map_add_zero, Nat.sub_zero, ite_self, hlc]
    refine (Seal_calls hcut' (by omega)).mono ?_
    rintro r hh ⟨hr, k1, f1⟩
    simp -implicitDefEqProofs only [go_sem, ↓reduceIte, Nat.reduceEqDiff, Nat.reduceAdd, Nat.reduceMul, Nat.reduceLT, Nat.reduceLeDiff, reduceCtorEq, Int.reduceLT, Int.reduceLE, Int.reduceToNat, Int.reduceAdd, Int.reduceSub, Int.reduceNeg, Nat.reduceSub, Int.reduceEq, Int.reduceNe, Int.reduceGT, Int.reduceGE, h4']
    refine (Equal_calls hr.bs (hv0.keep0 k1) (by rw [List.length_append, hlen, crcB_length]; omega) (by omega)).mono ?_
    rintro _ _ ⟨rfl, rfl⟩
    by_cases he : l.take (l.length - 4) ++ crcB (l.take (l.length - 4)) = l
    · simp -implicitDefEqProofs only [go_sem, ↓reduceIte, Nat.reduceEqDiff, Nat.reduceAdd, Nat.reduceMul, Nat.reduceLT, Nat.reduceLeDiff, reduceCtorEq, Int.reduceLT, Int.reduceLE, Int.reduceToNat, Int.reduceAdd, Int.reduceSub, Int.reduceNeg, Nat.reduceSub, Int.reduceEq, Int.reduceNe, Int.reduceGT, Int.reduceGE, he, h4, h4', hlc, e4, map_add_zero, Nat.sub_zero, ite_self, Int.toNat_natCast, Int.ofNat_le]
      refine (Clone_calls (hcut'.keep0 k1) (by omega)).mono ?_
      rintro b hh' ⟨hb, k2, f2⟩
      simp -implicitDefEqProofs only [go_sem, ↓reduceIte, Nat.reduceEqDiff, Nat.reduceAdd, Nat.reduceMul, Nat.reduceLT, Nat.reduceLeDiff, reduceCtorEq, Int.reduceLT, Int.reduceLE, Int.reduceToNat, Int.reduceAdd, Int.reduceSub, Int.reduceNeg, Nat.reduceSub, Int.reduceEq, Int.reduceNe, Int.reduceGT, Int.reduceGE, Tryd.results119, he, h4]
      exact ⟨⟨b, rfl, hb, fun x hx => Nat.le_trans k1.size (f2 x hx)⟩, k1.trans k2⟩
    · simp -implicitDefEqProofs only [go_sem, ↓reduceIte, Nat.reduceEqDiff, Nat.reduceAdd, Nat.reduceMul, Nat.reduceLT, Nat.reduceLeDiff, reduceCtorEq, Int.reduceLT, Int.reduceLE, Int.reduceToNat, Int.reduceAdd, Int.reduceSub, Int.reduceNeg, Nat.reduceSub, Int.reduceEq, Int.reduceNe, Int.reduceGT, Int.reduceGE, he, h4', and_false, Tryd.results119]
      exact k1
  · have h4' : ((l.length : Int) < 4) := by omega
    simp -implicitDefEqProofs only [go_sem, ↓reduceIte, Nat.reduceEqDiff, Nat.reduceAdd, Nat.reduceMul, Nat.reduceLT, Nat.reduceLeDiff, reduceCtorEq, Int.reduceLT, Int.reduceLE, Int.reduceToNat, Int.reduceAdd, Int.reduceSub, Int.reduceNeg, Nat.reduceSub, Int.reduceEq, Int.reduceNe, Int.reduceGT, Int.reduceGE, h4', h4, false_and, Tryd.results119]
    exact Keep.refl _ _
end Go.Proofs.Tryd
