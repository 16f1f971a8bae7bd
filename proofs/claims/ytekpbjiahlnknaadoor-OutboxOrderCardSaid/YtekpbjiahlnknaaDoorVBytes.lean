/- Rows of bytes: copies of them, what is behind them, whether two are alike. Its conditions: no more than 2^40 of them. -/
import Derived.Test.YtekpbjiahlnknaaDoorVFacts
import Derived.Test.YtekpbjiahlnknaaDoorVHClr
namespace Go.Proofs.Tryd
open Go.H
set_option maxRecDepth 100000
set_option linter.unusedSimpArgs false
set_option linter.unusedVariables false

/-- The blocks that a value points to are none of a heap's. -/
def Fresh (h : Heap) (v : Value) : Prop := ∀ b ∈ blk v, h.size ≤ b
theorem Fresh.none (h : Heap) (n m : Nat) : Fresh h (.slice none n m) := fun b hb => by simp [blk] at hb
theorem Fresh.nin {h : Heap} {v : Value} (f : Fresh h v) {x : Nat} (hx : x < h.size) : x ∉ blk v := fun hb => by have := f x hb; omega

theorem ap_b {K : Value → Heap → Prop} {h : Heap} {v x : Value} {l m : List Nat} (s : Bo 5 h v l) (hx : Bs h x m) (hb : l.length + m.length ≤ 1099511627776)
    (hk : ∀ v' h', Bo 5 h' v' (l ++ m) → Keep h h' (blk v) → (∀ b ∈ blk v', b ∈ blk v ∨ h.size ≤ b) → K v' h') : apH Tryd.prog 24 24 v x K h := by
  refine Sl.ap (e := 5) (n := 1) (z := .int .u8 0) (by_ := 1) (by kernel_rfl) (by kernel_rfl) (by kernel_rfl) rfl (by omega) (by kernel_rfl) s.1 hx.1.lenV hx.1.src (by simp) (u8_plain m) (by kernel_rfl) (by omega) (by omega) ?_
  intro v' h' hs k hb'
  refine hk v' h' ⟨?_, ?_⟩ k hb'
  · simpa using hs
  · intro y hy
    rcases List.mem_append.1 hy with h1 | h1
    · exact s.2 y h1
    · exact hx.2 y h1


theorem ap_c {K : Value → Heap → Prop} {h : Heap} {a : Option Addr} {cap : Nat} {x : Value} {l m : List Nat} (s : Bs h (.slice a l.length cap) l) (hcm : cap < l.length + m.length) (hx : Bs h x m) (hb : l.length + m.length ≤ 1099511627776)
    (hk : ∀ v' h', Bo 5 h' v' (l ++ m) → Keep h h' [] → Fresh h v' → K v' h') : apH Tryd.prog 24 24 (.slice a l.length cap) x K h := by
  refine SR.ap (e := 5) (n := 1) (z := .int .u8 0) (by_ := 1) (by kernel_rfl) (by kernel_rfl) (by kernel_rfl) rfl (by omega) (by kernel_rfl) s.1 hcm hx.1.lenV hx.1.src (by simp) (by kernel_rfl) (by omega) (by omega) ?_
  intro v' h' hs k hb'
  refine hk v' h' ⟨?_, ?_⟩ k hb'
  · simpa using hs
  · intro y hy
    rcases List.mem_append.1 hy with h1 | h1
    · exact s.2 y h1
    · exact hx.2 y h1

theorem Clip_calls {h : Heap} {v : Value} {l : List Nat} (hv : Bs h v l) : CallsH Tryd.prog 155 #[v] h (fun r h' => (∃ a, r = .slice a l.length l.length ∧ blk r = blk v) ∧ Bs h r l ∧ h' = h) := by
  have hv0 := hv
  obtain ⟨a, cap, rfl, h1, h2, h3⟩ := hv.open
  have h5 := hv0.cut (lo := 0) (Nat.zero_le _) (Nat.le_refl _) (Nat.le_refl _) h1
  refine CallsH.of_code (args := [_]) Tryd.func155 rfl (by kernel_rfl) ?_
  simp -implicitDefEqProofs only [go_sem, ↓reduceIte, Nat.reduceEqDiff, Nat.reduceAdd, Nat.reduceMul, Nat.reduceLT, Nat.reduceLeDiff, reduceCtorEq, Int.reduceLT, Int.reduceLE, Int.reduceToNat, Int.reduceAdd, Int.reduceSub, Int.reduceNeg, Nat.reduceSub, Int.reduceEq, Int.reduceNe, Int.reduceGT, Int.reduceGE, Tryd.results155, Int.toNat_natCast, Int.ofNat_le, h1, map_add_zero, Nat.sub_zero, ite_self]
  simp only [map_add_zero, Nat.sub_zero, ite_self, Nat.zero_mul, List.drop_zero, List.take_length] at h5
  exact ⟨⟨a, rfl, by cases a <;> rfl⟩, h5⟩

theorem Clone_calls {h : Heap} {v : Value} {l : List Nat} (hv : Bs h v l) (hl : l.length ≤ 1099511627776) : CallsH Tryd.prog 64 #[v] h (fun r h' => Bo 5 h' r l ∧ Keep h h' [] ∧ Fresh h r) := by
  have hv0 := hv
  obtain ⟨a, cap, rfl, h1, h2, h3⟩ := hv.open
  refine CallsH.of_code (args := [_]) Tryd.func64 rfl (by kernel_rfl) ?_
  cases a with
  | none =>
    simp -implicitDefEqProofs only [go_sem, ↓reduceIte, Nat.reduceEqDiff, Nat.reduceAdd, Nat.reduceMul, Nat.reduceLT, Nat.reduceLeDiff, reduceCtorEq, Int.reduceLT, Int.reduceLE, Int.reduceToNat, Int.reduceAdd, Int.reduceSub, Int.reduceNeg, Nat.reduceSub, Int.reduceEq, Int.reduceNe, Int.reduceGT, Int.reduceGE, Option.isNone_none, Tryd.results64]
    have := h2 rfl
    obtain rfl : l = [] := by
      have : l.length = 0 := by omega
      simpa using this
    exact ⟨Bo.nil _ _, Keep.refl _ _, Fresh.none _ _ _⟩
  | some a =>
    simp -implicitDefEqProofs only [go_sem, ↓reduceIte, Nat.reduceEqDiff, Nat.reduceAdd, Nat.reduceMul, Nat.reduceLT, Nat.reduceLeDiff, reduceCtorEq, Int.reduceLT, Int.reduceLE, Int.reduceToNat, Int.reduceAdd, Int.reduceSub, Int.reduceNeg, Nat.reduceSub, Int.reduceEq, Int.reduceNe, Int.reduceGT, Int.reduceGE, Option.isNone_some, Tryd.results64]
    have k0 : Keep h (h.push (Blk 5 (List.replicate 0 [Value.int IntKind.u8 0]).flatten)) [] := (Keep.refl _ _).push _
    refine ap_b (l := []) (m := l) ⟨⟨.inr ⟨h.size, 0, 0, [], rfl, by simp, by simp, by simp, by simp⟩, by simp⟩, by simp⟩ (hv0.keep0 k0) (by simp; omega) ?_
    intro v' h' hb k hf
    refine ⟨by simpa using hb, k0.trans' k (by simp [blk]), fun b hb => ?_⟩
    rcases hf b hb with h1 | h1
    · simp [blk] at h1; omega
    · simp at h1; omega

theorem Equal_calls {h : Heap} {v w : Value} {l m : List Nat} (hv : Bs h v l) (hw : Bs h w m) (hl : l.length ≤ 1099511627776) (hm : m.length ≤ 1099511627776) : CallsH Tryd.prog 160 #[v, w] h (fun r h' => r = .bool (decide (l = m)) ∧ h' = h) := by
  obtain ⟨a, cap, rfl, h1, h2, h3⟩ := hv.open
  obtain ⟨a', cap', rfl, h1', h2', h3'⟩ := hw.open
  refine CallsH.of_code (args := [_, _]) Tryd.func160 rfl (by kernel_rfl) ?_
  by_cases hlm : l.length = m.length
  · simp -implicitDefEqProofs only [go_sem, ↓reduceIte, Nat.reduceEqDiff, Nat.reduceAdd, Nat.reduceMul, Nat.reduceLT, Nat.reduceLeDiff, reduceCtorEq, Int.reduceLT, Int.reduceLE, Int.reduceToNat, Int.reduceAdd, Int.reduceSub, Int.reduceNeg, Nat.reduceSub, Int.reduceEq, Int.reduceNe, Int.reduceGT, Int.reduceGE, hlm, Tryd.results160]
    refine loop_dec (fun n e h' => ∃ i : Nat, n = l.length - i ∧ i ≤ l.length ∧ e 13 = .int .i64 i ∧ e 12 = .int .i64 m.length ∧ e 0 = .slice a m.length cap ∧ e 1 = .slice a' m.length cap' ∧ h' = h ∧ l.take i = m.take i) l.length ⟨0, by simp, by omega, rfl, rfl, rfl, rfl, rfl, by simp⟩ ?_
    rintro n e _ ⟨i, rfl, hi, e13, e12, e0, e1, rfl, ht⟩
    by_cases hlt : i < m.length
    · have hlt' : (i : Int) < m.length := by omega
      rcases h3 with h3 | ⟨b, o, cs, t, f, rfl, hb, hc⟩
      · subst h3; simp at hlm; omega
      rcases h3' with h3' | ⟨b', o', cs', t', f', rfl, hb', hc'⟩
      · subst h3'; simp at hlt
      have g1 := hc i (by omega)
      have g2 := hc' i (by omega)
      simp -implicitDefEqProofs only [go_sem, ↓reduceIte, Nat.reduceEqDiff, Nat.reduceAdd, Nat.reduceMul, Nat.reduceLT, Nat.reduceLeDiff, reduceCtorEq, Int.reduceLT, Int.reduceLE, Int.reduceToNat, Int.reduceAdd, Int.reduceSub, Int.reduceNeg, Nat.reduceSub, Int.reduceEq, Int.reduceNe, Int.reduceGT, Int.reduceGE, e13, e12, e0, e1, hlt', Tryd.results160]
      refine drawH_reads (.read 0 true (.read 1 true (.read 2 true (.read 3 true (.read 4 true (.read 5 true (.read 6 true (.read 7 true (.read 8 true .done))))))))) (by kernel_rfl) (by kernel_rfl) ?_
      simp -implicitDefEqProofs only [go_sem, ↓reduceIte, Nat.reduceEqDiff, Nat.reduceAdd, Nat.reduceMul, Nat.reduceLT, Nat.reduceLeDiff, reduceCtorEq, Int.reduceLT, Int.reduceLE, Int.reduceToNat, Int.reduceAdd, Int.reduceSub, Int.reduceNeg, Nat.reduceSub, Int.reduceEq, Int.reduceNe, Int.reduceGT, Int.reduceGE, e13, e12, e0, e1, hlt', Int.toNat_natCast, Nat.mul_one, forall_eq, hb, hb', g1, g2, Tryd.results160]
      by_cases hx : l.getD i 0 = m.getD i 0
      · simp -implicitDefEqProofs only [go_sem, ↓reduceIte, Nat.reduceEqDiff, Nat.reduceAdd, Nat.reduceMul, Nat.reduceLT, Nat.reduceLeDiff, reduceCtorEq, Int.reduceLT, Int.reduceLE, Int.reduceToNat, Int.reduceAdd, Int.reduceSub, Int.reduceNeg, Nat.reduceSub, Int.reduceEq, Int.reduceNe, Int.reduceGT, Int.reduceGE, e13, e12, e0, e1, hx]
        refine ⟨l.length - (i + 1), by omega, i + 1, rfl, by omega, ?_, ?_⟩
        · rw [w_i64 (by omega) (by omega)]; rfl
        · rw [List.take_add_one, List.take_add_one, ht]
          congr 1
          simp only [List.getD] at hx
          rw [List.getElem?_eq_getElem (by omega), List.getElem?_eq_getElem hlt] at hx ⊢
          simpa using hx
      · simp -implicitDefEqProofs only [go_sem, ↓reduceIte, Nat.reduceEqDiff, Nat.reduceAdd, Nat.reduceMul, Nat.reduceLT, Nat.reduceLeDiff, reduceCtorEq, Int.reduceLT, Int.reduceLE, Int.reduceToNat, Int.reduceAdd, Int.reduceSub, Int.reduceNeg, Nat.reduceSub, Int.reduceEq, Int.reduceNe, Int.reduceGT, Int.reduceGE, Int.natCast_inj, hx]
        rw [decide_eq_false]
        rintro rfl
        exact hx rfl
    · have hlt' : ¬ ((i : Int) < m.length) := by omega
      simp -implicitDefEqProofs only [go_sem, ↓reduceIte, Nat.reduceEqDiff, Nat.reduceAdd, Nat.reduceMul, Nat.reduceLT, Nat.reduceLeDiff, reduceCtorEq, Int.reduceLT, Int.reduceLE, Int.reduceToNat, Int.reduceAdd, Int.reduceSub, Int.reduceNeg, Nat.reduceSub, Int.reduceEq, Int.reduceNe, Int.reduceGT, Int.reduceGE, e13, e12, hlt', Tryd.results160]
      rw [List.take_of_length_le (by omega), List.take_of_length_le (by omega)] at ht
      simp [ht]
  · simp -implicitDefEqProofs only [go_sem, ↓reduceIte, Nat.reduceEqDiff, Nat.reduceAdd, Nat.reduceMul, Nat.reduceLT, Nat.reduceLeDiff, reduceCtorEq, Int.reduceLT, Int.reduceLE, Int.reduceToNat, Int.reduceAdd, Int.reduceSub, Int.reduceNeg, Nat.reduceSub, Int.reduceEq, Int.reduceNe, Int.reduceGT, Int.reduceGE, hlm, Int.natCast_inj, Tryd.results160]
    rw [decide_eq_false]
    rintro rfl
    exact hlm rfl
end Go.Proofs.Tryd
