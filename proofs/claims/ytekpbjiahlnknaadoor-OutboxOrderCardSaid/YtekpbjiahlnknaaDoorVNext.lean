/- The frame with which bytes begin. Its conditions: the bytes are a frame's, or the beginning of one; no more than 2^38 bytes. -/
import Derived.Test.YtekpbjiahlnknaaDoorVNextP
namespace Go.Proofs.Tryd
open Go.H
set_option maxRecDepth 100000
set_option maxHeartbeats 4000000
set_option linter.unusedSimpArgs false
set_option linter.unusedVariables false

def nextR (h0 h : Heap) (r : Value) : Option (Fra × Nat) → Prop
  | none => r = .tuple #[.agg #[.int .u8 0, .slice none 0 0], .int .i64 0, .nilIface]
  | some (f, n) => ∃ w, r = .tuple #[.agg #[.int .u8 f.typ, w], .int .i64 n, .nilIface] ∧ Bo 5 h w f.body ∧ Fresh h0 w ∧ f.typ < 256

theorem add_block (a : Addr) (k : Nat) : (a.add k).block = a.block := by unfold Addr.add; split <;> rfl
theorem blk_cut {c : Prop} [Decidable c] {a : Option Addr} {k n m n' m' : Nat} : ∀ b ∈ blk (.slice (if c then a else a.map (fun x => x.add k)) n m), b ∈ blk (.slice a n' m') := by
  intro b hb
  cases a with
  | none => split at hb <;> simp [blk] at hb
  | some a => split at hb <;> simpa [blk, add_block] using hb
theorem getD_lt {l : List Nat} (h : ∀ x ∈ l, x < 256) (i : Nat) : l.getD i 0 < 256 := by
  rcases Nat.lt_or_ge i l.length with h1 | h1
  · have : l.getD i 0 = l[i] := by simp [List.getD, h1]
    rw [this]; exact h _ (List.getElem_mem h1)
  · have : l.getD i 0 = 0 := by simp [List.getD, h1]
    omega
theorem next_calls {h : Heap} {v : Value} {l : List Nat} (hv : Bs h v l) (hl : l.length ≤ 274877906944) {x : Option (Fra × Nat)} (hx : nextF l = some x) :
    CallsH Tryd.prog 66 #[v] h (fun r h' => nextR h h' r x ∧ Keep h h' []) := by
  have hv0 := hv
  obtain ⟨a, cap, rfl, h1, h2, h3⟩ := hv.open
  unfold nextF at hx
  by_cases h0 : 0 < l.length ∧ l.getD 0 0 ≠ 181
  · rw [if_pos h0] at hx; cases hx
  rw [if_neg h0] at hx
  have k1 : Keep h (h.push (Blk 26 [.int .u8 0, .slice none 0 0])) [] := (Keep.refl _ _).push _
  by_cases hl0 : l = []
  · subst hl0
    simp only [List.length_nil, Nat.lt_irrefl, Nat.zero_lt_succ, if_true] at hx
    obtain rfl : none = x := by simpa using hx
    refine CallsH.of_code (args := [_]) Tryd.func66 rfl (by kernel_rfl) ?_
    simp -implicitDefEqProofs only [go_sem, ↓reduceIte, Nat.reduceEqDiff, Nat.reduceAdd, Nat.reduceMul, Nat.reduceLT, Nat.reduceLeDiff, reduceCtorEq, Int.reduceLT, Int.reduceLE, Int.reduceToNat, Int.reduceAdd, Int.reduceSub, Int.reduceNeg, Nat.reduceSub, Int.reduceEq, Int.reduceNe, Int.reduceGT, Int.reduceGE, push_get, hput_get, hput_size, Array.size_push, Nat.left_eq_add, Nat.add_eq_left, Nat.add_left_cancel_iff, Nat.reduceEqDiff, Tryd.results66, List.reduceReplicate, List.flatten_cons, List.flatten_nil, List.cons_append, List.nil_append, List.append_nil, List.length_set]
    exact ⟨rfl, k1.hput (.inr (Nat.le_refl _)) _ _⟩
  rcases h3 with h3 | ⟨b, o, cs, t, f, rfl, hb, hc⟩
  · exact absurd h3 hl0
  have hlpos : 0 < l.length := by
    rcases Nat.eq_zero_or_pos l.length with e | e
    · exact absurd (List.length_eq_zero_iff.1 e) hl0
    · exact e
  have e0 : l.getD 0 0 = 181 := by
    rcases Nat.decEq (l.getD 0 0) 181 with e | e
    · exact absurd ⟨hlpos, e⟩ h0
    · exact e
  have g0 := hc 0 hlpos
  rw [e0, Nat.add_zero] at g0
  have hpos' : (l.length : Int) > 0 := by omega
  have hbp : (h.push (Blk 26 [.int .u8 0, .slice none 0 0]))[b]? = some (.cells cs t f) := k1.get hb (by simp)
  by_cases hlt3 : l.length < 3
  · rw [if_pos hlt3] at hx
    obtain rfl : none = x := by simpa using hx
    have hlt3' : (l.length : Int) < 3 := by omega
    refine CallsH.of_code (args := [_]) Tryd.func66 rfl (by kernel_rfl) ?_
    simp -implicitDefEqProofs only [go_sem, ↓reduceIte, Nat.reduceEqDiff, Nat.reduceAdd, Nat.reduceMul, Nat.reduceLT, Nat.reduceLeDiff, reduceCtorEq, Int.reduceLT, Int.reduceLE, Int.reduceToNat, Int.reduceAdd, Int.reduceSub, Int.reduceNeg, Nat.reduceSub, Int.reduceEq, Int.reduceNe, Int.reduceGT, Int.reduceGE, push_get, hput_get, hput_size, Array.size_push, Nat.left_eq_add, Nat.add_eq_left, Nat.add_left_cancel_iff, Nat.reduceEqDiff, hbp, g0, hpos', hlt3', Tryd.results66, List.reduceReplicate, List.flatten_cons, List.flatten_nil, List.cons_append, List.nil_append, List.append_nil, List.length_set]
    exact ⟨rfl, k1.hput (.inr (Nat.le_refl _)) _ _⟩
  rw [if_neg hlt3] at hx
  have hlt3' : ¬ ((l.length : Int) < 3) := by omega
  by_cases h192 : 192 ≤ l.getD 2 0
  · rw [if_pos h192] at hx; cases hx
  rw [if_neg h192] at hx
  have g2 := hc 2 (by omega)
  have h192' : ¬ (((l.getD 2 0 : Nat) : Int) ≥ 192) := by omega
  have h22 : (2 : Int) < l.length := by omega
  have h23 : (2 : Int) ≤ l.length := by omega
  have hcut := (hv0.keep0 k1).cut (lo := 2) (hi := l.length) (mx := cap) (by omega) (Nat.le_refl _) h1 (Nat.le_refl _)
  rw [List.take_of_length_le (show (l.drop 2).length ≤ l.length - 2 by simp)] at hcut
  have hcap2 : ¬ cap = 2 := by omega
  simp only [hcap2, if_false, Option.map_some, Nat.reduceMul, add_none] at hcut
  generalize e2 : uptoF (l.drop 2) 0 4096 = u at hx
  obtain ⟨n, at_, c⟩ := u
  dsimp only at hx
  refine CallsH.of_code (args := [_]) Tryd.func66 rfl (by kernel_rfl) ?_
  simp -implicitDefEqProofs only [go_sem, ↓reduceIte, Nat.reduceEqDiff, Nat.reduceAdd, Nat.reduceMul, Nat.reduceLT, Nat.reduceLeDiff, reduceCtorEq, Int.reduceLT, Int.reduceLE, Int.reduceToNat, Int.reduceAdd, Int.reduceSub, Int.reduceNeg, Nat.reduceSub, Int.reduceEq, Int.reduceNe, Int.reduceGT, Int.reduceGE, push_get, hput_get, hput_size, Array.size_push, Nat.left_eq_add, Nat.add_eq_left, Nat.add_left_cancel_iff, Nat.reduceEqDiff, hbp, g0, g2, hpos', hlt3', h192', h22, h23, hcap2, Int.reduceToNat]
  refine (Read_calls hcut (by simp; omega)).mono ?_
  rintro _ hh1 ⟨p, rfl, hp, hr1, k2⟩
  simp -implicitDefEqProofs only [go_sem, ↓reduceIte, Nat.reduceEqDiff, Nat.reduceAdd, Nat.reduceMul, Nat.reduceLT, Nat.reduceLeDiff, reduceCtorEq, Int.reduceLT, Int.reduceLE, Int.reduceToNat, Int.reduceAdd, Int.reduceSub, Int.reduceNeg, Nat.reduceSub, Int.reduceEq, Int.reduceNe, Int.reduceGT, Int.reduceGE]
  refine (Upto_calls hr1 4096).mono ?_
  rintro _ hh2 ⟨rfl, hr2, k3⟩
  rw [e2] at hr2 ⊢
  dsimp only at hr2 ⊢
  have hle2 := hr2.le
  have k13 : Keep h hh2 [] := (k1.trans k2).trans' k3 (fun x hx => .inr (by simp at hx; subst hx; have := k1.size; omega))
  have hzero : hh2[h.size]? = some (Blk 26 [.int .u8 0, .slice none 0 0]) := k3.get (k2.get (push_new _ _) (by simp)) (by simp; simp at hp; omega)
  have hbz : hh2[b]? = some (.cells cs t f) := k13.get hb (by simp)
  simp -implicitDefEqProofs only [go_sem, ↓reduceIte, Nat.reduceEqDiff, Nat.reduceAdd, Nat.reduceMul, Nat.reduceLT, Nat.reduceLeDiff, reduceCtorEq, Int.reduceLT, Int.reduceLE, Int.reduceToNat, Int.reduceAdd, Int.reduceSub, Int.reduceNeg, Nat.reduceSub, Int.reduceEq, Int.reduceNe, Int.reduceGT, Int.reduceGE]
  refine (Err_calls hr2).mono ?_
  rintro er1 hh3 ⟨her1, rfl⟩
  simp -implicitDefEqProofs only [go_sem, ↓reduceIte, Nat.reduceEqDiff, Nat.reduceAdd, Nat.reduceMul, Nat.reduceLT, Nat.reduceLeDiff, reduceCtorEq, Int.reduceLT, Int.reduceLE, Int.reduceToNat, Int.reduceAdd, Int.reduceSub, Int.reduceNeg, Nat.reduceSub, Int.reduceEq, Int.reduceNe, Int.reduceGT, Int.reduceGE, List.reduceReplicate, List.flatten_cons, List.flatten_nil, List.cons_append, List.nil_append, List.append_nil, List.length_set]
  have k4 : ∀ o, Keep hh3 (hh3.push o) [] := fun o => (Keep.refl _ _).push o
  refine (Is_calls (l := [2]) (her1.keep (k4 _)) (SR.block (b := hh3.size) (t := 71) (l := [.int .i64 2]) (push_new _ _)) (by simp)).mono ?_
  rintro _ hh4 ⟨rfl, rfl⟩
  have hr4 := hr2.keep0 (k4 (Blk 71 [.int .i64 2]))
  by_cases hc2 : c = 2
  · subst hc2
    rw [if_pos rfl] at hx
    obtain rfl : none = x := by simpa using hx
    have hzero4 := (k4 (Blk 71 [.int .i64 2])).get hzero (by simp)
    simp -implicitDefEqProofs only [go_sem, ↓reduceIte, Nat.reduceEqDiff, Nat.reduceAdd, Nat.reduceMul, Nat.reduceLT, Nat.reduceLeDiff, reduceCtorEq, Int.reduceLT, Int.reduceLE, Int.reduceToNat, Int.reduceAdd, Int.reduceSub, Int.reduceNeg, Nat.reduceSub, Int.reduceEq, Int.reduceNe, Int.reduceGT, Int.reduceGE, List.mem_cons, List.not_mem_nil, or_false, hzero4, Tryd.results66, List.reduceReplicate, List.flatten_cons, List.flatten_nil, List.cons_append, List.nil_append, List.append_nil, List.length_set]
    exact ⟨rfl, (k13.trans (k4 _)).hput (.inr (Nat.le_refl _)) _ _⟩
  · rw [if_neg hc2] at hx
    by_cases hc0 : c = 0
    · subst hc0
      rw [if_neg (by simp)] at hx
      simp -implicitDefEqProofs only [go_sem, ↓reduceIte, Nat.reduceEqDiff, Nat.reduceAdd, Nat.reduceMul, Nat.reduceLT, Nat.reduceLeDiff, reduceCtorEq, Int.reduceLT, Int.reduceLE, Int.reduceToNat, Int.reduceAdd, Int.reduceSub, Int.reduceNeg, Nat.reduceSub, Int.reduceEq, Int.reduceNe, Int.reduceGT, Int.reduceGE, List.mem_cons, List.not_mem_nil, or_false, hc2]
      have hdl : (l.drop 2).length = l.length - 2 := by simp
      rw [hdl] at hle2
      have hn4 : n ≤ 4096 := by
        unfold uptoF at e2
        split at e2
        · cases e2
        · rename_i hh
          rw [e2] at hh
          dsimp only at hh
          omega
      refine (Err_calls hr4).mono ?_
      rintro er2 _ ⟨her2, rfl⟩
      simp -implicitDefEqProofs only [go_sem, ↓reduceIte, Nat.reduceEqDiff, Nat.reduceAdd, Nat.reduceMul, Nat.reduceLT, Nat.reduceLeDiff, reduceCtorEq, Int.reduceLT, Int.reduceLE, Int.reduceToNat, Int.reduceAdd, Int.reduceSub, Int.reduceNeg, Nat.reduceSub, Int.reduceEq, Int.reduceNe, Int.reduceGT, Int.reduceGE, ↓her2.neq]
      refine (Left_calls hr4).mono ?_
      rintro _ _ ⟨rfl, rfl⟩
      have w1 : IntKind.i64.wrap (n : Int) = n := w_i64 (by omega) (by omega)
      have w2 : IntKind.i64.wrap ((l.length : Int) - ((l.length - 2 - at_ : Nat) : Int)) = ((2 + at_ : Nat) : Int) := by rw [w_i64 (by omega) (by omega)]; omega
      have w3 : IntKind.i64.wrap (((2 + at_ : Nat) : Int) + (n : Int)) = ((2 + at_ + n : Nat) : Int) := by rw [w_i64 (by omega) (by omega)]; omega
      have w4 : IntKind.i64.wrap (((2 + at_ + n : Nat) : Int) + 4) = ((2 + at_ + n + 4 : Nat) : Int) := by rw [w_i64 (by omega) (by omega)]; omega
      have hzero4 := (k4 (Blk 71 [.int .i64 2])).get hzero (by simp)
      have hb4 := (k4 (Blk 71 [.int .i64 2])).get hbz (by simp)
      by_cases hw : l.length < 2 + at_ + n + 4
      · rw [if_pos hw] at hx
        obtain rfl : none = x := by simpa using hx
        have hw' : ((l.length : Int) < ((2 + at_ + n + 4 : Nat) : Int)) := by omega
        simp -implicitDefEqProofs only [go_sem, ↓reduceIte, Nat.reduceEqDiff, Nat.reduceAdd, Nat.reduceMul, Nat.reduceLT, Nat.reduceLeDiff, reduceCtorEq, Int.reduceLT, Int.reduceLE, Int.reduceToNat, Int.reduceAdd, Int.reduceSub, Int.reduceNeg, Nat.reduceSub, Int.reduceEq, Int.reduceNe, Int.reduceGT, Int.reduceGE, hdl, w1, w2, w3, w4, hw', hzero4, Tryd.results66, List.reduceReplicate, List.flatten_cons, List.flatten_nil, List.cons_append, List.nil_append, List.append_nil, List.length_set]
        exact ⟨rfl, (k13.trans (k4 _)).hput (.inr (Nat.le_refl _)) _ _⟩
      · rw [if_neg hw] at hx
        have hw' : ¬ ((l.length : Int) < ((2 + at_ + n + 4 : Nat) : Int)) := by omega
        have hw2 : (((2 + at_ + n + 4 : Nat) : Int) ≤ (cap : Int)) := by omega
        have hcut2 := (hv0.keep0 (k13.trans (k4 (Blk 71 [.int .i64 2])))).cut (lo := 0) (hi := 2 + at_ + n + 4) (mx := cap) (by omega) (by omega) (by omega) (Nat.le_refl _)
        generalize hL : l.take (2 + at_ + n + 4) = L at *
        have hLl : L.length = 2 + at_ + n + 4 := by rw [← hL]; simp; omega
        simp only [Nat.zero_mul, List.drop_zero, Nat.sub_zero, Option.map_some, add_none, Nat.add_zero, ite_self, hL] at hcut2
        simp -implicitDefEqProofs only [go_sem, ↓reduceIte, Nat.reduceEqDiff, Nat.reduceAdd, Nat.reduceMul, Nat.reduceLT, Nat.reduceLeDiff, reduceCtorEq, Int.reduceLT, Int.reduceLE, Int.reduceToNat, Int.reduceAdd, Int.reduceSub, Int.reduceNeg, Nat.reduceSub, Int.reduceEq, Int.reduceNe, Int.reduceGT, Int.reduceGE, hdl, w1, w2, w3, w4, hw', hw2, Nat.sub_zero, ite_self, Int.toNat_natCast]
        refine (Open_calls hcut2 (by omega)).mono ?_
        rintro r5 hh5 ⟨ho, k5⟩
        rw [hLl] at ho
        have hBl : (List.take (2 + at_ + n + 4 - 4) L).length = 2 + at_ + n := by rw [List.length_take, hLl]; omega
        by_cases hcr : List.take (2 + at_ + n + 4 - 4) L ++ crcB (List.take (2 + at_ + n + 4 - 4) L) = L
        · rw [if_pos hcr] at hx
          have hx' := Option.some.inj hx
          clear hx
          rw [if_pos ⟨by omega, hcr⟩] at ho
          obtain ⟨v5, rfl, hB5, hF5⟩ := ho
          have q := hB5.bs.open
          obtain ⟨a5, cap5, e5, hcap5, hnil5, _⟩ := q
          subst e5
          subst hx'
          have hcut5 := hB5.cut (lo := 2 + at_) (hi := 2 + at_ + n) (mx := cap5) (by omega) (by omega) (by omega) (Nat.le_refl _)
          have g1 := hc 1 (by omega)
          have h15 : (1 : Int) < l.length := by omega
          have hb5 := k5.get hb4 (by simp)
          have hzero5 := k5.get hzero4 (by simp)
          have w5 : IntKind.i64.wrap (((2 + at_ + n : Nat) : Int) - (n : Int)) = ((2 + at_ : Nat) : Int) := by rw [w_i64 (by omega) (by omega)]; omega
          have hle5 : ((2 + at_ : Nat) : Int) ≤ ((2 + at_ + n : Nat) : Int) := by omega
          simp -implicitDefEqProofs only [go_sem, ↓reduceIte, Nat.reduceEqDiff, Nat.reduceAdd, Nat.reduceMul, Nat.reduceLT, Nat.reduceLeDiff, reduceCtorEq, Int.reduceLT, Int.reduceLE, Int.reduceToNat, Int.reduceAdd, Int.reduceSub, Int.reduceNeg, Nat.reduceSub, Int.reduceEq, Int.reduceNe, Int.reduceGT, Int.reduceGE]
          refine drawH_reads (.read 0 false (.read 1 false (.read 2 true (.read 3 false (.read 4 false (.read 5 false (.read 6 false (.read 7 false (.read 8 false (.read 9 false (.read 10 false (.act 11 true (.read 12 false (.read 13 false .done)))))))))))))) (by kernel_rfl) (by kernel_rfl) ?_
          simp -implicitDefEqProofs only [go_sem, ↓reduceIte, Nat.reduceEqDiff, Nat.reduceAdd, Nat.reduceMul, Nat.reduceLT, Nat.reduceLeDiff, reduceCtorEq, Int.reduceLT, Int.reduceLE, Int.reduceToNat, Int.reduceAdd, Int.reduceSub, Int.reduceNeg, Nat.reduceSub, Int.reduceEq, Int.reduceNe, Int.reduceGT, Int.reduceGE, forall_eq, hb5, g1, h15, hBl, w1, w4, w5, hle5, hzero5, Int.toNat_natCast, Tryd.results66, List.reduceReplicate, List.flatten_cons, List.flatten_nil, List.cons_append, List.nil_append, List.append_nil, List.length_set]
          have hnin : ∀ x ∈ blk (Value.slice (if cap5 = 2 + at_ then a5 else Option.map (fun x => x.add ((2 + at_) * 1)) a5) (2 + at_ + n - (2 + at_)) (cap5 - (2 + at_))), h.size < x := fun x hx => by
            have h9 := hF5 x (blk_cut x hx)
            have h8 := k13.size
            simp at h9
            omega
          have kz : Keep hh5 (hput hh5 h.size 0 [Value.int IntKind.u8 ↑(l.getD 1 0), Value.slice (if cap5 = 2 + at_ then a5 else Option.map (fun x => x.add ((2 + at_) * 1)) a5) (2 + at_ + n - (2 + at_)) (cap5 - (2 + at_))]) [h.size] := (Keep.refl _ _).hput (.inl (by simp)) _ _
          have kall : Keep h hh5 [] := (k13.trans (k4 _)).trans k5
          refine ⟨⟨_, rfl, ?_, fun x hx => Nat.le_of_lt (hnin x hx), getD_lt hv0.2 1⟩, kall.hput (.inr (Nat.le_refl _)) _ _⟩
          have h6 := hcut5.keep kz (fun x hx => by have := hnin x hx; simp; omega)
          have e6 : List.take (2 + at_ + n - (2 + at_)) (List.drop (2 + at_) (List.take (2 + at_ + n + 4 - 4) L)) = List.drop (2 + at_ + n + 4 - 4 - n) (List.take (2 + at_ + n + 4 - 4) L) := by
            rw [show 2 + at_ + n + 4 - 4 - n = 2 + at_ from by omega, List.take_of_length_le]
            rw [List.length_drop, hBl]; omega
          rw [e6] at h6
          exact h6
        · rw [if_neg hcr] at hx; cases hx
    · rw [if_pos hc0] at hx; cases hx
end Go.Proofs.Tryd
