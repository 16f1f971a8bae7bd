/- Errors: numbers, and where they happened. Its conditions: none. -/
import Derived.Test.YtekpbjiahlnknaaDoorVBytes
namespace Go.Proofs.Tryd
open Go.H
set_option maxRecDepth 100000
set_option linter.unusedSimpArgs false
set_option linter.unusedVariables false
section
variable {K : Value → Heap → Prop} {h : Heap}
theorem ta305_71 (v : Value) : taH Tryd.prog 29 305 true (.iface 71 v) K h = K (.tuple #[.nilIface, .bool false]) h := ta_miss v (by kernel_rfl) (by kernel_rfl)
theorem ta305_222 (v : Value) : taH Tryd.prog 29 305 true (.iface 222 v) K h = K (.tuple #[.nilIface, .bool false]) h := ta_miss v (by kernel_rfl) (by kernel_rfl)
theorem ta301_71 (v : Value) : taH Tryd.prog 29 301 true (.iface 71 v) K h = K (.tuple #[.nilIface, .bool false]) h := ta_miss v (by kernel_rfl) (by kernel_rfl)
theorem ta301_222 (v : Value) : taH Tryd.prog 29 301 true (.iface 222 v) K h = K (.tuple #[.iface 222 v, .bool true]) h := ta_has v (by kernel_rfl)
theorem ta302_71 (v : Value) : taH Tryd.prog 29 302 true (.iface 71 v) K h = K (.tuple #[.nilIface, .bool false]) h := ta_miss v (by kernel_rfl) (by kernel_rfl)
theorem iv_Unwrap (a : Addr) : ivH Tryd.prog "Unwrap" (.iface 222 (.pointer (some a))) #[] K h = CallsH Tryd.prog 269 #[.pointer (some a)] h K := by kernel_rfl
theorem xc_TypeOf (v : Value) : xcH Tryd.prog 141 #[.iface 71 v] K h = K (.iface 294 (.agg #[typeHandle Tryd.prog 71])) h := by kernel_rfl
theorem iv_Comparable : ivH Tryd.prog "Comparable" (.iface 294 (.agg #[typeHandle Tryd.prog 71])) #[] K h = K (.bool true) h := by kernel_rfl
theorem cx141 : calleeX Tryd.prog 141 = true := by kernel_rfl
theorem cm71 : cmpT Tryd.prog 71 = true := by kernel_rfl
theorem ne7122 : ((71 : TypeId) == 222) = false := rfl
theorem ne2271 : ((222 : TypeId) == 71) = false := rfl
end
/-- An error of a number; where it is. -/
inductive Er (h : Heap) : Nat → Value → Nat → Prop
  | num (c : Nat) : c ≠ 0 → Er h 0 (.iface 71 (.int .i64 c)) c
  | place (d b : Nat) (s : ByteArray) (n v : Value) (c : Nat) : h[b]? = some (Blk 224 [.string s, n, v]) → Er h d v c → Er h (d + 1) (.iface 222 (.pointer (some ⟨b, 0, none⟩))) c
/-- An error, or none. -/
def Eo (h : Heap) (v : Value) (c : Nat) : Prop := (c = 0 ∧ v = .nilIface) ∨ ∃ d, Er h d v c
theorem Er.pos {h : Heap} {d : Nat} {v : Value} {c : Nat} (e : Er h d v c) : c ≠ 0 := by
  induction e with
  | num c hc => exact hc
  | place _ _ _ _ _ _ _ _ ih => exact ih
theorem Er.keep {h h' : Heap} {d : Nat} {v : Value} {c : Nat} (e : Er h d v c) (k : Keep h h' []) : Er h' d v c := by
  induction e with
  | num c hc => exact .num c hc
  | place d b s n v c hb _ ih => exact .place d b s n v c (k.get hb (by simp)) ih
theorem Er.keep' {h h' : Heap} {d : Nat} {v : Value} {c : Nat} {fp : List Nat} (e : Er h d v c) (k : Keep h h' fp) (hn : ∀ b ∈ fp, ∀ x, h[b]? ≠ some (Blk 224 x)) : Er h' d v c := by
  induction e with
  | num c hc => exact .num c hc
  | place d b s n v c hb _ ih => exact .place d b s n v c (k.get hb fun hm => hn b hm _ hb) ih
theorem Eo.keep' {h h' : Heap} {v : Value} {c : Nat} {fp : List Nat} (e : Eo h v c) (k : Keep h h' fp) (hn : ∀ b ∈ fp, ∀ x, h[b]? ≠ some (Blk 224 x)) : Eo h' v c := by
  rcases e with e | ⟨d, e⟩
  · exact .inl e
  · exact .inr ⟨d, e.keep' k hn⟩
theorem Eo.keep {h h' : Heap} {v : Value} {c : Nat} (e : Eo h v c) (k : Keep h h' []) : Eo h' v c := by
  rcases e with e | ⟨d, e⟩
  · exact .inl e
  · exact .inr ⟨d, e.keep k⟩
theorem Eo.nil (h : Heap) : Eo h .nilIface 0 := .inl ⟨rfl, rfl⟩
theorem Er.iface {h : Heap} {d : Nat} {v : Value} {c : Nat} (e : Er h d v c) : ∃ t x, v = .iface t x := by
  cases e with
  | num c hc => exact ⟨_, _, rfl⟩
  | place => exact ⟨_, _, rfl⟩
/-- Against nil. -/
theorem Eo.eql {h : Heap} {v : Value} {c : Nat} (e : Eo h v c) {x : Operand} {K : Value → Heap → Prop} {h' : Heap} : binH Tryd.prog .eql 29 x (.const .nilIface) v .nilIface K h' = K (.bool (decide (c = 0))) h' := by
  rcases e with ⟨rfl, rfl⟩ | ⟨d, e⟩
  · rw [bin_eql_nil_nil 29 x (by kernel_rfl)]; rfl
  · obtain ⟨t, y, rfl⟩ := e.iface
    rw [bin_eql_iface_nil 29 x t y (by kernel_rfl), decide_eq_false e.pos]
theorem Eo.neq {h : Heap} {v : Value} {c : Nat} (e : Eo h v c) {x : Operand} {K : Value → Heap → Prop} {h' : Heap} : binH Tryd.prog .neq 29 x (.const .nilIface) v .nilIface K h' = K (.bool (decide (c ≠ 0))) h' := by
  rcases e with ⟨rfl, rfl⟩ | ⟨d, e⟩
  · rw [bin_neq_nil_nil 29 x (by kernel_rfl)]; rfl
  · obtain ⟨t, y, rfl⟩ := e.iface
    rw [bin_neq_iface_nil 29 x t y (by kernel_rfl), decide_eq_true e.pos]

theorem Unwrap_calls {h : Heap} {b : Nat} {s : ByteArray} {n v : Value} (hb : h[b]? = some (Blk 224 [.string s, n, v])) : CallsH Tryd.prog 269 #[.pointer (some ⟨b, 0, none⟩)] h (fun r h' => r = v ∧ h' = h) := by
  refine CallsH.of_code (args := [_]) Tryd.func269 rfl (by kernel_rfl) ?_
  simp -implicitDefEqProofs only [go_sem, ↓reduceIte, Nat.reduceEqDiff, Nat.reduceAdd, Nat.reduceMul, Nat.reduceLT, Nat.reduceLeDiff, reduceCtorEq, Int.reduceLT, Int.reduceLE, Int.reduceToNat, Int.reduceAdd, Int.reduceSub, Int.reduceNeg, Nat.reduceSub, Int.reduceEq, Int.reduceNe, Int.reduceGT, Int.reduceGE, hb, Tryd.results269]


theorem is_calls {h : Heap} {d : Nat} {v : Value} {c : Nat} (he : Er h d v c) (n : Nat) : CallsH Tryd.prog 142 #[v, .iface 71 (.int .i64 n), .bool true] h (fun r h' => r = .bool (decide (c = n)) ∧ h' = h) := by
  refine CallsH.of_code (args := [_, _, _]) Tryd.func142 rfl (by kernel_rfl) ?_
  simp -implicitDefEqProofs only [go_sem, ↓reduceIte, Nat.reduceEqDiff, Nat.reduceAdd, Nat.reduceMul, Nat.reduceLT, Nat.reduceLeDiff, reduceCtorEq, Int.reduceLT, Int.reduceLE, Int.reduceToNat, Int.reduceAdd, Int.reduceSub, Int.reduceNeg, Nat.reduceSub, Int.reduceEq, Int.reduceNe, Int.reduceGT, Int.reduceGE]
  refine loop_dec (fun d e h' => ∃ v, Er h d v c ∧ e 0 = v ∧ e 1 = .iface 71 (.int .i64 n) ∧ e 2 = .bool true ∧ h' = h) d ⟨v, he, rfl, rfl, rfl, rfl⟩ ?_
  rintro d e _ ⟨v, he, e0, e1, e2, rfl⟩
  cases he with
  | num c hc =>
    by_cases hn : c = n
    · simp -implicitDefEqProofs only [go_sem, ↓reduceIte, Nat.reduceEqDiff, Nat.reduceAdd, Nat.reduceMul, Nat.reduceLT, Nat.reduceLeDiff, reduceCtorEq, Int.reduceLT, Int.reduceLE, Int.reduceToNat, Int.reduceAdd, Int.reduceSub, Int.reduceNeg, Nat.reduceSub, Int.reduceEq, Int.reduceNe, Int.reduceGT, Int.reduceGE, e0, e1, e2, cm71, ta305_71, ta301_71, ta302_71, Int.natCast_inj, hn, Tryd.results142]
    · simp -implicitDefEqProofs only [go_sem, ↓reduceIte, Nat.reduceEqDiff, Nat.reduceAdd, Nat.reduceMul, Nat.reduceLT, Nat.reduceLeDiff, reduceCtorEq, Int.reduceLT, Int.reduceLE, Int.reduceToNat, Int.reduceAdd, Int.reduceSub, Int.reduceNeg, Nat.reduceSub, Int.reduceEq, Int.reduceNe, Int.reduceGT, Int.reduceGE, e0, e1, e2, cm71, ta305_71, ta301_71, ta302_71, Int.natCast_inj, hn, Tryd.results142]
  | place d b s m v c hb he =>
    simp -implicitDefEqProofs only [go_sem, ↓reduceIte, Nat.reduceEqDiff, Nat.reduceAdd, Nat.reduceMul, Nat.reduceLT, Nat.reduceLeDiff, reduceCtorEq, Int.reduceLT, Int.reduceLE, Int.reduceToNat, Int.reduceAdd, Int.reduceSub, Int.reduceNeg, Nat.reduceSub, Int.reduceEq, Int.reduceNe, Int.reduceGT, Int.reduceGE, e0, e1, e2, ne2271, ta305_222, ta301_222, iv_Unwrap]
    refine (Unwrap_calls hb).mono ?_
    rintro _ _ ⟨rfl, rfl⟩
    obtain ⟨t, y, rfl⟩ := he.iface
    simp -implicitDefEqProofs only [go_sem, ↓reduceIte, Nat.reduceEqDiff, Nat.reduceAdd, Nat.reduceMul, Nat.reduceLT, Nat.reduceLeDiff, reduceCtorEq, Int.reduceLT, Int.reduceLE, Int.reduceToNat, Int.reduceAdd, Int.reduceSub, Int.reduceNeg, Nat.reduceSub, Int.reduceEq, Int.reduceNe, Int.reduceGT, Int.reduceGE, e0, e1, e2]
    exact ⟨d, by omega, _, he, rfl⟩

theorem Is_calls' {h : Heap} {v : Value} {c : Nat} (he : Eo h v c) (n : Nat) : CallsH Tryd.prog 87 #[v, .iface 71 (.int .i64 n)] h (fun r h' => r = .bool (decide (c ≠ 0 ∧ c = n)) ∧ h' = h) := by
  refine CallsH.of_code (args := [_, _]) Tryd.func87 rfl (by kernel_rfl) ?_
  rcases he with ⟨rfl, rfl⟩ | ⟨d, he⟩
  · simp -implicitDefEqProofs only [go_sem, ↓reduceIte, Nat.reduceEqDiff, Nat.reduceAdd, Nat.reduceMul, Nat.reduceLT, Nat.reduceLeDiff, reduceCtorEq, Int.reduceLT, Int.reduceLE, Int.reduceToNat, Int.reduceAdd, Int.reduceSub, Int.reduceNeg, Nat.reduceSub, Int.reduceEq, Int.reduceNe, Int.reduceGT, Int.reduceGE, Tryd.results87]
    simp
  · obtain ⟨t, y, rfl⟩ := he.iface
    simp -implicitDefEqProofs only [go_sem, ↓reduceIte, Nat.reduceEqDiff, Nat.reduceAdd, Nat.reduceMul, Nat.reduceLT, Nat.reduceLeDiff, reduceCtorEq, Int.reduceLT, Int.reduceLE, Int.reduceToNat, Int.reduceAdd, Int.reduceSub, Int.reduceNeg, Nat.reduceSub, Int.reduceEq, Int.reduceNe, Int.reduceGT, Int.reduceGE, cx141, xc_TypeOf, iv_Comparable]
    refine (is_calls he n).mono ?_
    rintro _ _ ⟨rfl, rfl⟩
    simp -implicitDefEqProofs only [go_sem, ↓reduceIte, Nat.reduceEqDiff, Nat.reduceAdd, Nat.reduceMul, Nat.reduceLT, Nat.reduceLeDiff, reduceCtorEq, Int.reduceLT, Int.reduceLE, Int.reduceToNat, Int.reduceAdd, Int.reduceSub, Int.reduceNeg, Nat.reduceSub, Int.reduceEq, Int.reduceNe, Int.reduceGT, Int.reduceGE, Tryd.results87]
    simp [he.pos]

theorem Of_calls' (h : Heap) (c : Nat) : CallsH Tryd.prog 61 #[.int .i64 c] h (fun r h' => Eo h' r c ∧ h' = h) := by
  refine CallsH.of_code (args := [_]) Tryd.func61 rfl (by kernel_rfl) ?_
  by_cases hc : c = 0
  · subst hc
    simp -implicitDefEqProofs only [go_sem, ↓reduceIte, Nat.reduceEqDiff, Nat.reduceAdd, Nat.reduceMul, Nat.reduceLT, Nat.reduceLeDiff, reduceCtorEq, Int.reduceLT, Int.reduceLE, Int.reduceToNat, Int.reduceAdd, Int.reduceSub, Int.reduceNeg, Nat.reduceSub, Int.reduceEq, Int.reduceNe, Int.reduceGT, Int.reduceGE, Tryd.results61]
    exact Eo.nil _
  · have hc' : ¬ (c : Int) = 0 := by omega
    simp -implicitDefEqProofs only [go_sem, ↓reduceIte, Nat.reduceEqDiff, Nat.reduceAdd, Nat.reduceMul, Nat.reduceLT, Nat.reduceLeDiff, reduceCtorEq, Int.reduceLT, Int.reduceLE, Int.reduceToNat, Int.reduceAdd, Int.reduceSub, Int.reduceNeg, Nat.reduceSub, Int.reduceEq, Int.reduceNe, Int.reduceGT, Int.reduceGE, hc', Tryd.results61]
    exact .inr ⟨0, .num c hc⟩

theorem At_calls {h : Heap} {v : Value} {c : Nat} (he : Eo h v c) (s : ByteArray) (n : Int) : CallsH Tryd.prog 67 #[.string s, .int .i64 n, v] h (fun r h' => Eo h' r c ∧ Keep h h' []) := by
  refine CallsH.of_code (args := [_, _, _]) Tryd.func67 rfl (by kernel_rfl) ?_
  rcases he with ⟨rfl, rfl⟩ | ⟨d, he⟩
  · simp -implicitDefEqProofs only [go_sem, ↓reduceIte, Nat.reduceEqDiff, Nat.reduceAdd, Nat.reduceMul, Nat.reduceLT, Nat.reduceLeDiff, reduceCtorEq, Int.reduceLT, Int.reduceLE, Int.reduceToNat, Int.reduceAdd, Int.reduceSub, Int.reduceNeg, Nat.reduceSub, Int.reduceEq, Int.reduceNe, Int.reduceGT, Int.reduceGE, Tryd.results67]
    exact ⟨Eo.nil _, Keep.refl _ _⟩
  · obtain ⟨t, y, rfl⟩ := he.iface
    simp -implicitDefEqProofs only [go_sem, ↓reduceIte, Nat.reduceEqDiff, Nat.reduceAdd, Nat.reduceMul, Nat.reduceLT, Nat.reduceLeDiff, reduceCtorEq, Int.reduceLT, Int.reduceLE, Int.reduceToNat, Int.reduceAdd, Int.reduceSub, Int.reduceNeg, Nat.reduceSub, Int.reduceEq, Int.reduceNe, Int.reduceGT, Int.reduceGE, Tryd.results67, List.reduceReplicate, List.flatten_cons, List.flatten_nil, List.cons_append, List.nil_append, List.append_nil, List.length_set]
    have k : ∀ o, Keep h (h.push o) [] := fun o => (Keep.refl _ _).push _
    exact ⟨.inr ⟨_, .place d h.size s (.int .i64 n) _ c (push_new _ _) (he.keep (k _))⟩, k _⟩

/-- Is an error of one of some numbers? -/
theorem Is_calls {h : Heap} {v w : Value} {c : Nat} (he : Eo h v c) {l : List Nat} (hw : SR h 1 w l.length (l.map fun n : Nat => Value.int .i64 n)) (hl : l.length < 1000) : CallsH Tryd.prog 32 #[v, w] h (fun r h' => r = .bool (decide (c ∈ l)) ∧ h' = h) := by
  obtain ⟨⟨a, cap, rfl, h1, h2, h3⟩, _⟩ := hw
  refine CallsH.of_code (args := [_, _]) Tryd.func32 rfl (by kernel_rfl) ?_
  simp -implicitDefEqProofs only [go_sem, ↓reduceIte, Nat.reduceEqDiff, Nat.reduceAdd, Nat.reduceMul, Nat.reduceLT, Nat.reduceLeDiff, reduceCtorEq, Int.reduceLT, Int.reduceLE, Int.reduceToNat, Int.reduceAdd, Int.reduceSub, Int.reduceNeg, Nat.reduceSub, Int.reduceEq, Int.reduceNe, Int.reduceGT, Int.reduceGE]
  refine loop_dec (fun n e h' => ∃ i : Nat, n = l.length - i ∧ i ≤ l.length ∧ e 9 = .int .i64 i ∧ e 8 = .int .i64 l.length ∧ e 7 = .slice a l.length cap ∧ e 0 = v ∧ h' = h ∧ c ∉ l.take i) l.length ⟨0, by simp, by omega, rfl, rfl, rfl, rfl, rfl, by simp⟩ ?_
  rintro n e _ ⟨i, rfl, hi, e9, e8, e7, e0, rfl, hnm⟩
  by_cases hlt : i < l.length
  · have hlt' : (i : Int) < l.length := by omega
    rcases h3 with h3 | ⟨b, o, cs, t, f, rfl, hb, hc⟩
    · simp at h3; subst h3; simp at hlt
    have g1 := hc i (by simpa using hlt)
    rw [List.getElem?_map, List.getElem?_eq_getElem hlt, Option.map_some] at g1
    have ht : l.take (i + 1) = l.take i ++ [l[i]] := by rw [List.take_add_one, List.getElem?_eq_getElem hlt]; rfl
    generalize l[i] = x at *
    by_cases hx : x = 0
    · subst hx
      by_cases hc0 : c = 0
      · simp -implicitDefEqProofs only [go_sem, ↓reduceIte, Nat.reduceEqDiff, Nat.reduceAdd, Nat.reduceMul, Nat.reduceLT, Nat.reduceLeDiff, reduceCtorEq, Int.reduceLT, Int.reduceLE, Int.reduceToNat, Int.reduceAdd, Int.reduceSub, Int.reduceNeg, Nat.reduceSub, Int.reduceEq, Int.reduceNe, Int.reduceGT, Int.reduceGE, e9, e8, e7, e0, hlt', Int.toNat_natCast, Nat.mul_one, hb, g1, ↓he.eql, hc0, Tryd.results32]
        subst hc0
        have : 0 ∈ l := by
          have : 0 ∈ l.take (i + 1) := by rw [ht]; simp
          exact List.mem_of_mem_take this
        simp [this]
      · simp -implicitDefEqProofs only [go_sem, ↓reduceIte, Nat.reduceEqDiff, Nat.reduceAdd, Nat.reduceMul, Nat.reduceLT, Nat.reduceLeDiff, reduceCtorEq, Int.reduceLT, Int.reduceLE, Int.reduceToNat, Int.reduceAdd, Int.reduceSub, Int.reduceNeg, Nat.reduceSub, Int.reduceEq, Int.reduceNe, Int.reduceGT, Int.reduceGE, e9, e8, e7, e0, hlt', Int.toNat_natCast, Nat.mul_one, hb, g1, ↓he.eql, hc0]
        refine ⟨l.length - (i + 1), by omega, i + 1, rfl, by omega, ?_, ?_⟩
        · rw [w_i64 (by omega) (by omega)]; rfl
        · rw [ht]
          simp [hnm, hc0]
    · have hx' : ¬ (x : Int) = 0 := by omega
      simp -implicitDefEqProofs only [go_sem, ↓reduceIte, Nat.reduceEqDiff, Nat.reduceAdd, Nat.reduceMul, Nat.reduceLT, Nat.reduceLeDiff, reduceCtorEq, Int.reduceLT, Int.reduceLE, Int.reduceToNat, Int.reduceAdd, Int.reduceSub, Int.reduceNeg, Nat.reduceSub, Int.reduceEq, Int.reduceNe, Int.reduceGT, Int.reduceGE, e9, e8, e7, e0, hlt', Int.toNat_natCast, Nat.mul_one, hb, g1, hx']
      refine (Is_calls' he x).mono ?_
      rintro _ _ ⟨rfl, rfl⟩
      by_cases hcx : c = x
      · subst hcx
        have hmem : c ∈ l := by
          have : c ∈ l.take (i + 1) := by rw [ht]; simp
          exact List.mem_of_mem_take this
        simp -implicitDefEqProofs only [go_sem, ↓reduceIte, Nat.reduceEqDiff, Nat.reduceAdd, Nat.reduceMul, Nat.reduceLT, Nat.reduceLeDiff, reduceCtorEq, Int.reduceLT, Int.reduceLE, Int.reduceToNat, Int.reduceAdd, Int.reduceSub, Int.reduceNeg, Nat.reduceSub, Int.reduceEq, Int.reduceNe, Int.reduceGT, Int.reduceGE, hx, hx', hmem, Tryd.results32]
      · simp -implicitDefEqProofs only [go_sem, ↓reduceIte, Nat.reduceEqDiff, Nat.reduceAdd, Nat.reduceMul, Nat.reduceLT, Nat.reduceLeDiff, reduceCtorEq, Int.reduceLT, Int.reduceLE, Int.reduceToNat, Int.reduceAdd, Int.reduceSub, Int.reduceNeg, Nat.reduceSub, Int.reduceEq, Int.reduceNe, Int.reduceGT, Int.reduceGE, hcx, hx, hx', and_false, e9, e8, e7, e0]
        refine ⟨l.length - (i + 1), by omega, i + 1, rfl, by omega, ?_, ?_⟩
        · rw [w_i64 (by omega) (by omega)]; rfl
        · rw [ht]
          simp [hnm, hcx]
  · have hlt' : ¬ ((i : Int) < l.length) := by omega
    simp -implicitDefEqProofs only [go_sem, ↓reduceIte, Nat.reduceEqDiff, Nat.reduceAdd, Nat.reduceMul, Nat.reduceLT, Nat.reduceLeDiff, reduceCtorEq, Int.reduceLT, Int.reduceLE, Int.reduceToNat, Int.reduceAdd, Int.reduceSub, Int.reduceNeg, Nat.reduceSub, Int.reduceEq, Int.reduceNe, Int.reduceGT, Int.reduceGE, e9, e8, hlt', Tryd.results32]
    rw [List.take_of_length_le (by omega)] at hnm
    simp [hnm]
end Go.Proofs.Tryd
