/- A box: what it sends. Its conditions: no more than 2^20 frames, each of at most 4096 bytes. -/
import Derived.Test.YtekpbjiahlnknaaDoorVBox
namespace Go.Proofs.Tryd
open Go.H
set_option maxRecDepth 100000
set_option maxHeartbeats 4000000
set_option linter.unusedSimpArgs false
set_option linter.unusedVariables false
section
variable {h h' : Heap} {p most credit sent : Nat} {q o : Value} {fs : List Fra} {vs : List Value} {out : List Nat}

theorem pump_calls (b : Box h p most credit q fs vs sent o out) (hm : fs.length ≤ 1048576) (hc : credit ≤ 1048576) (hs : sent ≤ credit) (ho : out.length ≤ 549755813888) :
    CallsH Tryd.prog 65 #[.pointer (some ⟨p, 0, none⟩)] h (fun r h' => ∃ q' o', Box h' p most credit q' (fs.drop (min fs.length (credit - sent))) (vs.drop (min fs.length (credit - sent))) (sent + min fs.length (credit - sent)) o' (out ++ (fs.take (min fs.length (credit - sent))).flatMap Fra.bytes) ∧
      Keep h h' (p :: (blk q ++ blk o)) ∧ (∀ x ∈ blk q', x ∈ blk q) ∧ (∀ x ∈ blk o', x ∈ blk o ∨ h.size ≤ x)) := by
  have hfit := b.que.fr.fit
  refine CallsH.of_code (args := [_]) Tryd.func65 rfl (by kernel_rfl) ?_
  simp -implicitDefEqProofs only [go_sem, ↓reduceIte, Nat.reduceEqDiff, Nat.reduceAdd, Nat.reduceMul, Nat.reduceLT, Nat.reduceLeDiff, reduceCtorEq, Int.reduceLT, Int.reduceLE, Int.reduceToNat, Int.reduceAdd, Int.reduceSub, Int.reduceNeg, Nat.reduceSub, Int.reduceEq, Int.reduceNe, Int.reduceGT, Int.reduceGE]
  refine loop_dec (fun z e h' => ∃ (i : Nat) (q' o' : Value), z = fs.length - i ∧ i ≤ fs.length ∧ sent + i ≤ credit ∧ e 0 = .pointer (some ⟨p, 0, none⟩) ∧
      Box h' p most credit q' (fs.drop i) (vs.drop i) (sent + i) o' (out ++ (fs.take i).flatMap Fra.bytes) ∧ Keep h h' (p :: (blk q ++ blk o)) ∧ (∀ x ∈ blk q', x ∈ blk q) ∧ (∀ x ∈ blk o', x ∈ blk o ∨ h.size ≤ x)) fs.length
    ⟨0, q, o, by simp, by omega, by omega, rfl, by simpa using b, Keep.refl _ _, fun x hx => hx, fun x hx => .inl hx⟩ ?_
  rintro z e h1 ⟨i, q', o', rfl, hi, hsc, e0, b1, k1, hq1, ho1⟩
  have hdl : (fs.drop i).length = fs.length - i := by simp
  by_cases hgo : i < fs.length ∧ sent + i < credit
  · obtain ⟨hlt, hlc⟩ := hgo
    obtain ⟨f, hfi⟩ : ∃ f, fs[i]? = some f := ⟨fs[i], by simp [hlt]⟩
    obtain ⟨w, hw⟩ : ∃ w, vs[i]? = some w := ⟨vs[i]'(by rw [b.que.len]; exact hlt), by simp⟩
    have hdf : fs.drop i = f :: fs.drop (i + 1) := by
      have := List.drop_eq_getElem_cons hlt
      rw [List.getElem?_eq_getElem hlt] at hfi
      rw [this, Option.some.inj hfi]
    have hdv : vs.drop i = w :: vs.drop (i + 1) := by
      have hlt' := (List.getElem?_eq_some_iff.1 hw).1
      have := List.drop_eq_getElem_cons hlt'
      rw [List.getElem?_eq_getElem hlt'] at hw
      rw [this, Option.some.inj hw]
    rw [hdf, hdv] at b1
    have hnx : (fs.take (i + 1)).flatMap Fra.bytes = (fs.take i).flatMap Fra.bytes ++ f.bytes := by
      rw [List.take_add_one, hfi, List.flatMap_append]; simp
    have hD : (fs.drop (i + 1)).length ≤ 1048576 := by rw [List.length_drop]; omega
    have hOl : ((fs.take i).flatMap Fra.bytes).length ≤ 4111 * 1048576 := by
      have h1 := bytes_le (fs.take i) (fun g hg => (hfit g (List.mem_of_mem_take hg)).len)
      have : (fs.take i).length ≤ 1048576 := by rw [List.length_take]; omega
      omega
    generalize hDe : fs.drop (i + 1) = D at *
    generalize hDv : vs.drop (i + 1) = V at *
    have hp1 := b1.at_
    rcases b1.que.sl.ex with ⟨_, h0⟩ | ⟨bq, oq, cap, cells, e9, hbq, hcap, hlcap, hcell⟩
    · simp at h0
    subst e9
    have hat := b1.que.fr.rd.at (i := 0) (f := f) (w := w) rfl rfl
    obtain ⟨hBw, hff⟩ := b1.que.body 0 f w rfl rfl
    simp only [List.length_cons, Nat.zero_mul, Nat.add_zero] at hat hp1
    have c1 : (((D.length + 1 : Nat) : Int) > 0) := by omega
    have c2 : (((sent + i : Nat) : Int) < (credit : Int)) := by omega
    have c3 : (0 : Int) < ((D.length + 1 : Nat) : Int) := by omega
    replace hat : (h1[bq]?).bind (objCells oq 2) = some [.int .u8 f.typ, w] := hat
    simp -implicitDefEqProofs only [go_sem, ↓reduceIte, Nat.reduceEqDiff, Nat.reduceAdd, Nat.reduceMul, Nat.reduceLT, Nat.reduceLeDiff, reduceCtorEq, Int.reduceLT, Int.reduceLE, Int.reduceToNat, Int.reduceAdd, Int.reduceSub, Int.reduceNeg, Nat.reduceSub, Int.reduceEq, Int.reduceNe, Int.reduceGT, Int.reduceGE]
    refine drawH_reads (.read 0 true (.read 1 true (.read 2 true (.read 3 true (.read 4 true (.read 5 true (.read 6 true (.read 7 true (.read 8 true (.read 9 true (.read 10 true (.read 11 true (.read 12 true (.read 13 true (.read 14 true (.read 15 true (.read 16 true .done))))))))))))))))) (by kernel_rfl) (by kernel_rfl) ?_
    simp -implicitDefEqProofs only [go_sem, ↓reduceIte, Nat.reduceEqDiff, Nat.reduceAdd, Nat.reduceMul, Nat.reduceLT, Nat.reduceLeDiff, reduceCtorEq, Int.reduceLT, Int.reduceLE, Int.reduceToNat, Int.reduceAdd, Int.reduceSub, Int.reduceNeg, Nat.reduceSub, Int.reduceEq, Int.reduceNe, Int.reduceGT, Int.reduceGE, e0, hp1, forall_eq, c1, c2, c3, hat, Int.toNat_zero, Nat.zero_mul, Nat.add_zero, List.reduceReplicate, List.flatten_cons, List.flatten_nil, List.cons_append, List.nil_append, List.append_nil, List.length_set, Sl.cells hBw.1, ↓Sl.plain hBw.1]
    have k2 : Keep h1 (h1.push (Blk 26 [Value.int IntKind.u8 f.typ, w])) [] := (Keep.refl _ _).push _
    have g2 : (h1.push (Blk 26 [Value.int IntKind.u8 f.typ, w]))[h1.size]? = some (Blk 26 [u8 f.typ, w]) := push_new _ _
    generalize h1.push (Blk 26 [Value.int IntKind.u8 f.typ, w]) = h2 at *
    refine (Bytes_calls (fs := [f]) (vs := [w]) (Fr.block g2 (hBw.keep0 k2) hff).rd (by simp) (by simpa using hff.len)).mono ?_
    rintro _ h3 ⟨bb, rfl, hBb, hFb, k3⟩
    have k13 := k2.trans k3
    have hp3 := k13.get hp1 (by simp)
    have hO3 := b1.out.keep0 k13
    have hfl := bytes_length f
    have hfs := sizeF_range f.body.length
    have hfl2 := hff.len
    simp only [List.flatMap_cons, List.flatMap_nil, List.append_nil] at hBb
    simp -implicitDefEqProofs only [go_sem, ↓reduceIte, Nat.reduceEqDiff, Nat.reduceAdd, Nat.reduceMul, Nat.reduceLT, Nat.reduceLeDiff, reduceCtorEq, Int.reduceLT, Int.reduceLE, Int.reduceToNat, Int.reduceAdd, Int.reduceSub, Int.reduceNeg, Nat.reduceSub, Int.reduceEq, Int.reduceNe, Int.reduceGT, Int.reduceGE, e0, hp3]
    refine ap_b hO3 hBb.bs (by rw [List.length_append]; omega) ?_
    intro o4 h4 hO4 k4 f4
    have hQ3 := b1.que.keep k13 (by simp) (by simp)
    have hp4 := k4.get hp3 (Sl.nin hO3.1 hp3 (by omega))
    simp -implicitDefEqProofs only [go_sem, ↓reduceIte, Nat.reduceEqDiff, Nat.reduceAdd, Nat.reduceMul, Nat.reduceLT, Nat.reduceLeDiff, reduceCtorEq, Int.reduceLT, Int.reduceLE, Int.reduceToNat, Int.reduceAdd, Int.reduceSub, Int.reduceNeg, Nat.reduceSub, Int.reduceEq, Int.reduceNe, Int.reduceGT, Int.reduceGE, e0, hp4, Sl.cells hO4.1, ↓Sl.plain hO4.1]
    have hQ4 := hQ3.keep k4 (Sl.dj hQ3.sl hO3.1 (by omega)) b1.sep
    have k5 : Keep h4 (hput h4 p 4 [o4]) [p] := (Keep.refl _ _).hput (.inl (by simp)) _ _
    have hbn : ∀ {u : Value} {l : List Nat}, Bo 5 h4 u l → ∀ x ∈ blk u, x ∉ [p] := fun {u} {l} q x hx => by
      simp; rintro rfl; exact Sl.nin q.1 hp4 (by omega) hx
    have hp5 : (hput h4 p 4 [o4])[p]? = some (Blk 135 [.int .i64 most, .int .i64 credit, .slice (some ⟨bq, oq, none⟩) (D.length + 1) cap, .int .i64 ((sent + i : Nat) : Int), o4]) := by rw [hput_same, hp4]; rfl
    have hQ5 := hQ4.keep k5 (fun x hx => by simp; rintro rfl; exact Sl.nin hQ4.sl hp4 (by omega) hx) (fun u hu x hx => by
        obtain ⟨l, hl⟩ := hQ4.fr.bo u hu
        exact hbn hl x hx)
    have hO5 := hO4.keep k5 (hbn hO4)
    generalize hput h4 p 4 [o4] = h5 at *
    refine (Delete_calls hQ5 hD).mono ?_
    rintro q6 h6 ⟨hQ6, k6, f6⟩
    have hp6 := k6.get hp5 (Sl.nin hQ5.sl hp5 (by omega))
    have hO6 := hO5.keep k6 (Sl.dj hO5.1 hQ5.sl (by omega))
    have wn : IntKind.i64.wrap (((sent + i : Nat) : Int) + 1) = ((sent + (i + 1) : Nat) : Int) := by rw [w_i64 (by omega) (by omega)]; omega
    simp -implicitDefEqProofs only [go_sem, ↓reduceIte, Nat.reduceEqDiff, Nat.reduceAdd, Nat.reduceMul, Nat.reduceLT, Nat.reduceLeDiff, reduceCtorEq, Int.reduceLT, Int.reduceLE, Int.reduceToNat, Int.reduceAdd, Int.reduceSub, Int.reduceNeg, Nat.reduceSub, Int.reduceEq, Int.reduceNe, Int.reduceGT, Int.reduceGE, e0, hp6, wn, Sl.cells hQ6.sl, ↓Sl.plain hQ6.sl]
    have k7 : Keep h6 (hput (hput h6 p 2 [q6]) p 3 [Value.int IntKind.i64 ((sent + (i + 1) : Nat) : Int)]) [p] := ((Keep.refl _ _).hput (.inl (by simp)) _ _).hput (.inl (by simp)) _ _
    have hbn6 : ∀ {u : Value} {l : List Nat}, Bo 5 h6 u l → ∀ x ∈ blk u, x ∉ [p] := fun {u} {l} q x hx => by
      simp; rintro rfl; exact Sl.nin q.1 hp6 (by omega) hx
    refine ⟨fs.length - (i + 1), by omega, i + 1, q6, o4, rfl, by omega, by omega, ⟨by rw [hput_same, hput_same, hp6]; rfl, ?_, ?_, ?_⟩, ?_, ?_, ?_⟩
    · rw [hDe, hDv]
      exact hQ6.keep k7 (fun x hx => by simp; rintro rfl; exact Sl.nin hQ6.sl hp6 (by omega) hx) (fun u hu x hx => by
        obtain ⟨l, hl⟩ := hQ6.fr.bo u hu
        exact hbn6 hl x hx)
    · rw [hnx, ← List.append_assoc]
      exact hO6.keep k7 (hbn6 hO6)
    · rw [hDv]
      intro u hu x hx hx'
      rcases f4 x hx' with h8 | h8
      · exact b1.sep u (List.mem_cons_of_mem _ hu) x hx h8
      · obtain ⟨l, hl⟩ := b1.que.fr.bo u (List.mem_cons_of_mem _ hu)
        have := Bo.lt hl x hx
        have := k13.size
        omega
    · have ka : Keep h h3 (p :: (blk q ++ blk o)) := k1.trans (k13.mono (by simp))
      have kb : Keep h h4 (p :: (blk q ++ blk o)) := ka.trans' k4 (fun x hx => by
        rcases ho1 x hx with h8 | h8
        · exact .inl (by simp [h8])
        · exact .inr h8)
      have kc : Keep h h5 (p :: (blk q ++ blk o)) := kb.trans (k5.mono (by simp))
      have kd : Keep h h6 (p :: (blk q ++ blk o)) := kc.trans (k6.mono fun x hx => by
        have := hq1 x (by simpa [blk] using hx)
        simp [this])
      exact kd.trans (k7.mono (by simp))
    · exact fun x hx => hq1 x (by simpa [blk] using f6 x hx)
    · intro x hx
      rcases f4 x hx with h8 | h8
      · exact ho1 x h8
      · exact .inr (Nat.le_trans (Nat.le_trans k1.size k13.size) h8)
  · have hie : i = min fs.length (credit - sent) := by omega
    have hp1 := b1.at_
    obtain ⟨⟨aq, cq, e9, _⟩, _⟩ := b1.que.sl.sr
    subst e9
    rw [hdl] at hp1
    by_cases hlt : i < fs.length
    · have c1 : (((fs.length - i : Nat) : Int) > 0) := by omega
      have c2 : ¬ (((sent + i : Nat) : Int) < (credit : Int)) := by omega
      simp -implicitDefEqProofs only [go_sem, ↓reduceIte, Nat.reduceEqDiff, Nat.reduceAdd, Nat.reduceMul, Nat.reduceLT, Nat.reduceLeDiff, reduceCtorEq, Int.reduceLT, Int.reduceLE, Int.reduceToNat, Int.reduceAdd, Int.reduceSub, Int.reduceNeg, Nat.reduceSub, Int.reduceEq, Int.reduceNe, Int.reduceGT, Int.reduceGE]
      refine drawH_reads (.read 0 true (.read 1 true (.read 2 true (.read 3 true (.read 4 true (.read 5 true (.read 6 true (.read 7 true (.read 8 true (.read 9 true (.read 10 true (.read 11 true (.read 12 true (.read 13 true (.read 14 true (.read 15 true (.read 16 true .done))))))))))))))))) (by kernel_rfl) (by kernel_rfl) ?_
      simp -implicitDefEqProofs only [go_sem, ↓reduceIte, Nat.reduceEqDiff, Nat.reduceAdd, Nat.reduceMul, Nat.reduceLT, Nat.reduceLeDiff, reduceCtorEq, Int.reduceLT, Int.reduceLE, Int.reduceToNat, Int.reduceAdd, Int.reduceSub, Int.reduceNeg, Nat.reduceSub, Int.reduceEq, Int.reduceNe, Int.reduceGT, Int.reduceGE, e0, hp1, forall_eq, c1, c2, Tryd.results65]
      rw [← hie]
      exact ⟨_, _, b1, k1, hq1, ho1⟩
    · have c1 : ¬ (((fs.length - i : Nat) : Int) > 0) := by omega
      simp -implicitDefEqProofs only [go_sem, ↓reduceIte, Nat.reduceEqDiff, Nat.reduceAdd, Nat.reduceMul, Nat.reduceLT, Nat.reduceLeDiff, reduceCtorEq, Int.reduceLT, Int.reduceLE, Int.reduceToNat, Int.reduceAdd, Int.reduceSub, Int.reduceNeg, Nat.reduceSub, Int.reduceEq, Int.reduceNe, Int.reduceGT, Int.reduceGE]
      refine drawH_reads (.read 0 true (.read 1 true (.read 2 true (.read 3 true (.read 4 true (.read 5 true (.read 6 true (.read 7 true (.read 8 true (.read 9 true (.read 10 true (.read 11 true (.read 12 true (.read 13 true (.read 14 true (.read 15 true (.read 16 true .done))))))))))))))))) (by kernel_rfl) (by kernel_rfl) ?_
      simp -implicitDefEqProofs only [go_sem, ↓reduceIte, Nat.reduceEqDiff, Nat.reduceAdd, Nat.reduceMul, Nat.reduceLT, Nat.reduceLeDiff, reduceCtorEq, Int.reduceLT, Int.reduceLE, Int.reduceToNat, Int.reduceAdd, Int.reduceSub, Int.reduceNeg, Nat.reduceSub, Int.reduceEq, Int.reduceNe, Int.reduceGT, Int.reduceGE, e0, hp1, forall_eq, c1, Tryd.results65]
      rw [← hie]
      exact ⟨_, _, b1, k1, hq1, ho1⟩

theorem Take_calls (b : Box h p most credit q fs vs sent o out) (hm : fs.length ≤ 1048576) (hc : credit ≤ 1048576) (hs : sent ≤ credit) (ho : out.length ≤ 274877906944) (N : Nat) (hN : N ≤ 1048576) {k : Nat} (hk : k = min fs.length (credit - sent)) {out1 : List Nat} (hout : out1 = out ++ (fs.take k).flatMap Fra.bytes) {n : Nat} (hn : n = min N out1.length) :
    CallsH Tryd.prog 16 #[.pointer (some ⟨p, 0, none⟩), .int .i64 N] h (fun r h' => ∃ q' o', Bo 5 h' r (out1.take n) ∧ Box h' p most credit q' (fs.drop k) (vs.drop k) (sent + k) o' (out1.drop n) ∧
      Keep h h' (p :: (blk q ++ blk o)) ∧ (∀ x ∈ blk q', x ∈ blk q) ∧ Fresh h o' ∧ Fresh h r ∧ (∀ x ∈ blk r, x ∉ blk o')) := by
  have hOl : out1.length ≤ 549755813888 := by
    have h1 := bytes_le (fs.take k) (fun g hg => (b.que.fr.fit g (List.mem_of_mem_take hg)).len)
    have h2 : (fs.take k).length ≤ 1048576 := by rw [List.length_take]; omega
    rw [hout, List.length_append]
    omega
  refine CallsH.of_code (args := [_, _]) Tryd.func16 rfl (by kernel_rfl) ?_
  simp -implicitDefEqProofs only [go_sem, ↓reduceIte, Nat.reduceEqDiff, Nat.reduceAdd, Nat.reduceMul, Nat.reduceLT, Nat.reduceLeDiff, reduceCtorEq, Int.reduceLT, Int.reduceLE, Int.reduceToNat, Int.reduceAdd, Int.reduceSub, Int.reduceNeg, Nat.reduceSub, Int.reduceEq, Int.reduceNe, Int.reduceGT, Int.reduceGE]
  refine (pump_calls b hm hc hs (by omega)).mono ?_
  rw [← hk, ← hout]
  rintro r0 h1 ⟨q1, o1, b1, k1, hq1, ho1⟩
  have hp1 := b1.at_
  obtain ⟨a1, cap1, e1, hcap1, hnil1, _⟩ := b1.out.bs.open
  have hmx : (if (N : Int) < 0 then (0 : Int) else (N : Int)) = (N : Int) := by rw [if_neg (by omega)]
  have hmn : (if (out1.length : Int) < (N : Int) then (out1.length : Int) else (N : Int)) = (n : Int) := by split <;> omega
  have b2 := b1
  rw [e1] at hp1 b2
  have c1 : (n : Int) ≤ (cap1 : Int) := by omega
  have hcutA := b2.out.cut (lo := 0) (hi := n) (mx := cap1) (by omega) (by omega) (by omega) (Nat.le_refl _)
  have hcutB := b2.out.cut (lo := n) (hi := out1.length) (mx := cap1) (by omega) (Nat.le_refl _) hcap1 (Nat.le_refl _)
  rw [List.take_of_length_le (show (out1.drop n).length ≤ out1.length - n by simp)] at hcutB
  simp only [Nat.zero_mul, List.drop_zero, Nat.sub_zero, map_add_zero, ite_self] at hcutA
  simp -implicitDefEqProofs only [go_sem, ↓reduceIte, Nat.reduceEqDiff, Nat.reduceAdd, Nat.reduceMul, Nat.reduceLT, Nat.reduceLeDiff, reduceCtorEq, Int.reduceLT, Int.reduceLE, Int.reduceToNat, Int.reduceAdd, Int.reduceSub, Int.reduceNeg, Nat.reduceSub, Int.reduceEq, Int.reduceNe, Int.reduceGT, Int.reduceGE, hp1, hmx, hmn, c1, Int.toNat_natCast, ite_self, Nat.sub_zero, map_add_zero]
  refine (Clone_calls hcutA.bs (by rw [List.length_take]; omega)).mono ?_
  rintro r2 h2 ⟨hB2, k2, f2⟩
  have hp2 := k2.get hp1 (by simp)
  have c2 : (n : Int) ≤ (out1.length : Int) := by omega
  simp -implicitDefEqProofs only [go_sem, ↓reduceIte, Nat.reduceEqDiff, Nat.reduceAdd, Nat.reduceMul, Nat.reduceLT, Nat.reduceLeDiff, reduceCtorEq, Int.reduceLT, Int.reduceLE, Int.reduceToNat, Int.reduceAdd, Int.reduceSub, Int.reduceNeg, Nat.reduceSub, Int.reduceEq, Int.reduceNe, Int.reduceGT, Int.reduceGE, hp2, hmx, hmn, c1, c2, Int.toNat_natCast]
  refine (Clone_calls (hcutB.keep0 k2).bs (by simp; omega)).mono ?_
  rintro o3 h3 ⟨hB3, k3, f3⟩
  have hp3 := k3.get hp2 (by simp)
  simp -implicitDefEqProofs only [go_sem, ↓reduceIte, Nat.reduceEqDiff, Nat.reduceAdd, Nat.reduceMul, Nat.reduceLT, Nat.reduceLeDiff, reduceCtorEq, Int.reduceLT, Int.reduceLE, Int.reduceToNat, Int.reduceAdd, Int.reduceSub, Int.reduceNeg, Nat.reduceSub, Int.reduceEq, Int.reduceNe, Int.reduceGT, Int.reduceGE, hp3, Sl.cells hB3.1, ↓Sl.plain hB3.1, Tryd.results16]
  have k4 : Keep h3 (hput h3 p 4 [o3]) [p] := (Keep.refl _ _).hput (.inl (by simp)) _ _
  have hbn : ∀ {u : Value} {l : List Nat}, Bo 5 h3 u l → ∀ x ∈ blk u, x ∉ [p] := fun {u} {l} q x hx => by
    simp; rintro rfl; exact Sl.nin q.1 hp3 (by omega) hx
  have k13 := k2.trans k3
  have hQ3 := b1.que.keep k13 (by simp) (by simp)
  have hR3 := hB2.keep0 k3
  refine ⟨q1, o3, hR3.keep k4 (hbn hR3), ⟨by rw [hput_same, hp3]; rfl, ?_, hB3.keep k4 (hbn hB3), ?_⟩, (k1.trans (k13.mono (by simp))).trans (k4.mono (by simp)), hq1, ?_, ?_, ?_⟩
  · exact hQ3.keep k4 (fun x hx => by simp; rintro rfl; exact Sl.nin hQ3.sl hp3 (by omega) hx) (fun u hu x hx => by
      obtain ⟨l, hl⟩ := hQ3.fr.bo u hu
      exact hbn hl x hx)
  · intro u hu x hx hx'
    obtain ⟨l, hl⟩ := b1.que.fr.bo u hu
    have h8 := Bo.lt hl x hx
    have h9 := f3 x hx'
    have := k2.size
    omega
  · exact fun x hx => Nat.le_trans (Nat.le_trans k1.size k2.size) (f3 x hx)
  · exact fun x hx => Nat.le_trans k1.size (f2 x hx)
  · intro x hx hx'
    have h8 := Bo.lt hB2 x hx
    have h9 := f3 x hx'
    omega
end
end Go.Proofs.Tryd
