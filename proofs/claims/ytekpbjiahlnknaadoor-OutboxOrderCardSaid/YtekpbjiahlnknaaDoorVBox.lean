/- A box: frames that wait, and bytes that go. Its conditions: no more than 2^20 frames, each of at most 4096 bytes. -/
import Derived.Test.YtekpbjiahlnknaaDoorVFrOwn
namespace Go.Proofs.Tryd
open Go.H
set_option maxRecDepth 100000
set_option maxHeartbeats 4000000
set_option linter.unusedSimpArgs false
set_option linter.unusedVariables false

/-- A box. -/
structure Box (h : Heap) (p : Nat) (most credit : Nat) (q : Value) (fs : List Fra) (vs : List Value) (sent : Nat) (o : Value) (out : List Nat) : Prop where
  at_ : h[p]? = some (Blk 135 [.int .i64 most, .int .i64 credit, q, .int .i64 sent, o])
  que : Fo h q fs vs
  out : Bo 5 h o out
  sep : ∀ w ∈ vs, ∀ b ∈ blk w, b ∉ blk o
section
variable {h h' : Heap} {p most credit sent : Nat} {q o : Value} {fs : List Fra} {vs : List Value} {out : List Nat}

theorem BoxNew_calls (h : Heap) (m c : Nat) (hm : 1 ≤ m) (hc : 1 ≤ c) : CallsH Tryd.prog 12 #[.int .i64 m, .int .i64 c] h (fun r h' => ∃ p, r = .tuple #[.pointer (some ⟨p, 0, none⟩), .nilIface] ∧ h.size ≤ p ∧
    Box h' p m c (.slice none 0 0) [] [] 0 (.slice none 0 0) [] ∧ Keep h h' []) := by
  have h1 : ¬ ((m : Int) < 1) := by omega
  have h2 : ¬ ((c : Int) < 1) := by omega
  refine CallsH.of_code (args := [_, _]) Tryd.func12 rfl (by kernel_rfl) ?_
  simp -implicitDefEqProofs only [go_sem, ↓reduceIte, Nat.reduceEqDiff, Nat.reduceAdd, Nat.reduceMul, Nat.reduceLT, Nat.reduceLeDiff, reduceCtorEq, Int.reduceLT, Int.reduceLE, Int.reduceToNat, Int.reduceAdd, Int.reduceSub, Int.reduceNeg, Nat.reduceSub, Int.reduceEq, Int.reduceNe, Int.reduceGT, Int.reduceGE, h1, h2, Tryd.results12]
  refine ⟨h.size, rfl, Nat.le_refl _, ⟨push_new _ _, Fo.nil _, Bo.nil _ _, by simp⟩, (Keep.refl _ _).push _⟩

theorem Room_calls (b : Box h p most credit q fs vs sent o out) (hm : fs.length ≤ most) (hm' : most ≤ 1048576) : CallsH Tryd.prog 62 #[.pointer (some ⟨p, 0, none⟩)] h (fun r h' => r = .int .i64 ((most - fs.length : Nat) : Int) ∧ h' = h) := by
  obtain ⟨⟨aq, cq, rfl, _⟩, _⟩ := b.que.sl.sr
  have hp := b.at_
  have w1 : IntKind.i64.wrap ((most : Int) - (fs.length : Int)) = ((most - fs.length : Nat) : Int) := by rw [w_i64 (by omega) (by omega)]; omega
  refine CallsH.of_code (args := [_]) Tryd.func62 rfl (by kernel_rfl) ?_
  simp -implicitDefEqProofs only [go_sem, ↓reduceIte, Nat.reduceEqDiff, Nat.reduceAdd, Nat.reduceMul, Nat.reduceLT, Nat.reduceLeDiff, reduceCtorEq, Int.reduceLT, Int.reduceLE, Int.reduceToNat, Int.reduceAdd, Int.reduceSub, Int.reduceNeg, Nat.reduceSub, Int.reduceEq, Int.reduceNe, Int.reduceGT, Int.reduceGE, hp]
  refine drawH_reads (.read 0 true (.read 1 true (.read 2 true (.read 3 true (.read 4 true (.read 5 true (.read 6 true (.read 7 true (.read 8 true (.read 9 true (.read 10 true .done))))))))))) (by kernel_rfl) (by kernel_rfl) ?_
  simp -implicitDefEqProofs only [go_sem, ↓reduceIte, Nat.reduceEqDiff, Nat.reduceAdd, Nat.reduceMul, Nat.reduceLT, Nat.reduceLeDiff, reduceCtorEq, Int.reduceLT, Int.reduceLE, Int.reduceToNat, Int.reduceAdd, Int.reduceSub, Int.reduceNeg, Nat.reduceSub, Int.reduceEq, Int.reduceNe, Int.reduceGT, Int.reduceGE, hp, forall_eq, w1, Tryd.results62]
theorem Waits_calls (b : Box h p most credit q fs vs sent o out) : CallsH Tryd.prog 14 #[.pointer (some ⟨p, 0, none⟩)] h (fun r h' => r = .int .i64 (fs.length : Int) ∧ h' = h) := by
  obtain ⟨⟨aq, cq, rfl, _⟩, _⟩ := b.que.sl.sr
  have hp := b.at_
  refine CallsH.of_code (args := [_]) Tryd.func14 rfl (by kernel_rfl) ?_
  simp -implicitDefEqProofs only [go_sem, ↓reduceIte, Nat.reduceEqDiff, Nat.reduceAdd, Nat.reduceMul, Nat.reduceLT, Nat.reduceLeDiff, reduceCtorEq, Int.reduceLT, Int.reduceLE, Int.reduceToNat, Int.reduceAdd, Int.reduceSub, Int.reduceNeg, Nat.reduceSub, Int.reduceEq, Int.reduceNe, Int.reduceGT, Int.reduceGE, hp, Tryd.results14]
theorem Sent_calls (b : Box h p most credit q fs vs sent o out) : CallsH Tryd.prog 15 #[.pointer (some ⟨p, 0, none⟩)] h (fun r h' => r = .int .i64 (sent : Int) ∧ h' = h) := by
  have hp := b.at_
  refine CallsH.of_code (args := [_]) Tryd.func15 rfl (by kernel_rfl) ?_
  simp -implicitDefEqProofs only [go_sem, ↓reduceIte, Nat.reduceEqDiff, Nat.reduceAdd, Nat.reduceMul, Nat.reduceLT, Nat.reduceLeDiff, reduceCtorEq, Int.reduceLT, Int.reduceLE, Int.reduceToNat, Int.reduceAdd, Int.reduceSub, Int.reduceNeg, Nat.reduceSub, Int.reduceEq, Int.reduceNe, Int.reduceGT, Int.reduceGE, hp, Tryd.results15]
/-- What the box's own block has may turn. -/
theorem Box.turn {sent' : Nat} (b : Box h p most credit q fs vs sent o out) (k : Keep h h' [p]) (hp' : h'[p]? = some (Blk 135 [.int .i64 most, .int .i64 credit, q, .int .i64 sent', o])) : Box h' p most credit q fs vs sent' o out := by
  have hbn : ∀ {u : Value} {l : List Nat}, Bo 5 h u l → ∀ x ∈ blk u, x ∉ [p] := fun {u} {l} q x hx => by
    simp; rintro rfl; exact Sl.nin q.1 b.at_ (by omega) hx
  refine ⟨hp', b.que.keep k (fun x hx => by simp; rintro rfl; exact Sl.nin b.que.sl b.at_ (by omega) hx) (fun u hu x hx => ?_), b.out.keep k (hbn b.out), b.sep⟩
  obtain ⟨l, hl⟩ := b.que.fr.bo u hu
  exact hbn hl x hx
theorem Ack_calls (b : Box h p most credit q fs vs sent o out) (n : Nat) (hn : n ≤ sent) (hs : sent ≤ 1048576) : CallsH Tryd.prog 18 #[.pointer (some ⟨p, 0, none⟩), .int .u64 n] h (fun r h' => r = .nilIface ∧
    Box h' p most credit q fs vs (sent - n) o out ∧ Keep h h' [p]) := by
  have hp := b.at_
  have w1 : IntKind.u64.wrap (sent : Int) = sent := w_u64 (by omega) (by omega)
  have w2 : IntKind.i64.wrap (n : Int) = n := w_i64 (by omega) (by omega)
  have w3 : IntKind.i64.wrap ((sent : Int) - (n : Int)) = ((sent - n : Nat) : Int) := by rw [w_i64 (by omega) (by omega)]; omega
  have h1 : ¬ ((n : Int) > (sent : Int)) := by omega
  refine CallsH.of_code (args := [_, _]) Tryd.func18 rfl (by kernel_rfl) ?_
  simp -implicitDefEqProofs only [go_sem, ↓reduceIte, Nat.reduceEqDiff, Nat.reduceAdd, Nat.reduceMul, Nat.reduceLT, Nat.reduceLeDiff, reduceCtorEq, Int.reduceLT, Int.reduceLE, Int.reduceToNat, Int.reduceAdd, Int.reduceSub, Int.reduceNeg, Nat.reduceSub, Int.reduceEq, Int.reduceNe, Int.reduceGT, Int.reduceGE, hp, w1, w2, w3, h1, Tryd.results18]
  have k1 : Keep h (hput h p 3 [Value.int IntKind.i64 ((sent - n : Nat) : Int)]) [p] := (Keep.refl _ _).hput (.inl (by simp)) _ _
  exact ⟨b.turn k1 (by rw [hput_same, hp]; rfl), k1⟩

theorem Put_calls' {l : Value} {gs : List Fra} {ws : List Value} (b : Box h p most credit q fs vs sent o out) (hl : ∀ h', Keep h h' (p :: blk q) → Fs h' l gs ws) (hf : ∀ f ∈ gs, f.fit) (hr : fs.length + gs.length ≤ most) (hm : most ≤ 1048576) :
    CallsH Tryd.prog 13 #[.pointer (some ⟨p, 0, none⟩), l] h (fun r h' => ∃ q' vs', r = .nilIface ∧ Box h' p most credit q' (fs ++ gs) vs' sent o out ∧ Keep h h' (p :: blk q) ∧
      (∀ x ∈ blk q', x ∈ blk q ∨ h.size ≤ x)) := by
  have hp := b.at_
  have hl0 := hl h (Keep.refl _ _)
  obtain ⟨⟨a, cap, rfl, h1, h2, h3⟩, hlc⟩ := hl0.sr
  have hgt : ¬ ((gs.length : Int) > ((most - fs.length : Nat) : Int)) := by omega
  refine CallsH.of_code (args := [_, _]) Tryd.func13 rfl (by kernel_rfl) ?_
  simp -implicitDefEqProofs only [go_sem, ↓reduceIte, Nat.reduceEqDiff, Nat.reduceAdd, Nat.reduceMul, Nat.reduceLT, Nat.reduceLeDiff, reduceCtorEq, Int.reduceLT, Int.reduceLE, Int.reduceToNat, Int.reduceAdd, Int.reduceSub, Int.reduceNeg, Nat.reduceSub, Int.reduceEq, Int.reduceNe, Int.reduceGT, Int.reduceGE]
  refine (Room_calls b (by omega) hm).mono ?_
  rintro _ hz ⟨rfl, rfl⟩
  simp -implicitDefEqProofs only [go_sem, ↓reduceIte, Nat.reduceEqDiff, Nat.reduceAdd, Nat.reduceMul, Nat.reduceLT, Nat.reduceLeDiff, reduceCtorEq, Int.reduceLT, Int.reduceLE, Int.reduceToNat, Int.reduceAdd, Int.reduceSub, Int.reduceNeg, Nat.reduceSub, Int.reduceEq, Int.reduceNe, Int.reduceGT, Int.reduceGE, hgt]
  refine (Bytes_calls hl0 (by omega) fun f hf' => (hf f hf').len).mono ?_
  rintro _ h1 ⟨bb, rfl, hBb, hFb, k1⟩
  simp -implicitDefEqProofs only [go_sem, ↓reduceIte, Nat.reduceEqDiff, Nat.reduceAdd, Nat.reduceMul, Nat.reduceLT, Nat.reduceLeDiff, reduceCtorEq, Int.reduceLT, Int.reduceLE, Int.reduceToNat, Int.reduceAdd, Int.reduceSub, Int.reduceNeg, Nat.reduceSub, Int.reduceEq, Int.reduceNe, Int.reduceGT, Int.reduceGE]
  have b1 : Box h1 p most credit q fs vs sent o out := ⟨k1.get hp (by simp), b.que.keep k1 (by simp) (by simp), b.out.keep0 k1, b.sep⟩
  refine loop_dec (fun z e h' => ∃ (i : Nat) (q' : Value) (vs' : List Value), z = gs.length - i ∧ i ≤ gs.length ∧ e 28 = .int .i64 i ∧ e 27 = .int .i64 gs.length ∧ e 26 = .slice a gs.length cap ∧ e 0 = .pointer (some ⟨p, 0, none⟩) ∧
      Box h' p most credit q' (fs ++ gs.take i) vs' sent o out ∧ Keep hz h' (p :: blk q) ∧ (∀ x ∈ blk q', x ∈ blk q ∨ hz.size ≤ x)) gs.length
    ⟨0, q, vs, by simp, by omega, rfl, rfl, rfl, rfl, by simpa using b1, k1.mono (by simp), fun x hx => .inl hx⟩ ?_
  rintro z e h4 ⟨i, q', vs', rfl, hi, e28, e27, e26, e0, b4, k4, hq4⟩
  by_cases hlt : i < gs.length
  · have hlt' : (i : Int) < gs.length := by omega
    obtain ⟨f, hfi⟩ : ∃ f, gs[i]? = some f := ⟨gs[i], by simp [hlt]⟩
    obtain ⟨w, hw⟩ : ∃ w, ws[i]? = some w := ⟨ws[i]'(by rw [hl0.len]; exact hlt), by simp⟩
    have hl4 := hl h4 k4
    obtain ⟨bl, ol, rfl⟩ : ∃ b o, a = some ⟨b, o, none⟩ := by
      rcases h3 with h3 | ⟨b, o, cs, t, f', e, _⟩
      · have := fcells_length gs ws hl0.len
        rw [h3] at this; simp at this; omega
      · exact ⟨b, o, e⟩
    have hat := hl4.at hfi hw
    obtain ⟨hbs, htyp⟩ := hl4.body i f w hfi hw
    obtain ⟨aw, capw, rfl, hcw, _⟩ := hbs.open
    have hff := hf f (List.mem_of_getElem? hfi)
    replace hat : (h4[bl]?).bind (objCells (ol + i * 2) 2) = some [.int .u8 f.typ, .slice aw f.body.length capw] := hat
    simp -implicitDefEqProofs only [go_sem, ↓reduceIte, Nat.reduceEqDiff, Nat.reduceAdd, Nat.reduceMul, Nat.reduceLT, Nat.reduceLeDiff, reduceCtorEq, Int.reduceLT, Int.reduceLE, Int.reduceToNat, Int.reduceAdd, Int.reduceSub, Int.reduceNeg, Nat.reduceSub, Int.reduceEq, Int.reduceNe, Int.reduceGT, Int.reduceGE, e28, e27, e26, e0, hlt', Int.toNat_natCast, hat, push_get, hput_get, hput_size, Array.size_push, Nat.left_eq_add, Nat.add_eq_left, Nat.add_left_cancel_iff, Nat.reduceEqDiff, List.reduceReplicate, List.flatten_cons, List.flatten_nil, List.cons_append, List.nil_append, List.append_nil, List.length_set]
    rw [hput_push rfl, objPut_Blk]
    have k5 : Keep h4 (h4.push (Blk 26 [.int .u8 f.typ, .slice aw f.body.length capw])) [] := (Keep.refl _ _).push _
    have g8 : (h4.push (Blk 26 [.int .u8 f.typ, .slice aw f.body.length capw]))[h4.size]? = some (Blk 26 [.int .u8 f.typ, .slice aw f.body.length capw]) := push_new _ _
    show drawH _ _ _ _ (h4.push (Blk 26 [.int .u8 f.typ, .slice aw f.body.length capw]))
    generalize h4.push (Blk 26 [.int .u8 f.typ, .slice aw f.body.length capw]) = h5 at *
    have gp := k5.get b4.at_ (by simp)
    refine drawH_of_tree (.read 0 false (.read 1 false (.read 2 false (.read 3 false (.read 4 true (.read 5 false (.read 6 true (.read 7 false (.read 8 true (.act 9 false (.read 10 false (.act 11 false (.act 12 false (.read 13 false (.read 14 false (.act 15 true .done)))))))))))))))) (fun x => x[p]? = some (Blk 135 [.int .i64 most, .int .i64 credit, q', .int .i64 sent, o]) ∧ x[h4.size]? = some (Blk 26 [.int .u8 f.typ, .slice aw f.body.length capw])) (by kernel_rfl) (by kernel_rfl) ?_
    simp -implicitDefEqProofs only [go_sem, ↓reduceIte, Nat.reduceEqDiff, Nat.reduceAdd, Nat.reduceMul, Nat.reduceLT, Nat.reduceLeDiff, reduceCtorEq, Int.reduceLT, Int.reduceLE, Int.reduceToNat, Int.reduceAdd, Int.reduceSub, Int.reduceNeg, Nat.reduceSub, Int.reduceEq, Int.reduceNe, Int.reduceGT, Int.reduceGE, e0, gp, g8]
    have hfl := hff.len
    refine (Clone_calls (hbs.keep0 k5) (by omega)).mono ?_
    rintro wc h6 ⟨hB6, k6, f6⟩
    have gp6 := k6.get gp (by simp)
    have g86 := k6.get g8 (by simp)
    have hsz8 : h4.size < h6.size := lt_of_some g86
    simp -implicitDefEqProofs only [go_sem, ↓reduceIte, Nat.reduceEqDiff, Nat.reduceAdd, Nat.reduceMul, Nat.reduceLT, Nat.reduceLeDiff, reduceCtorEq, Int.reduceLT, Int.reduceLE, Int.reduceToNat, Int.reduceAdd, Int.reduceSub, Int.reduceNeg, Nat.reduceSub, Int.reduceEq, Int.reduceNe, Int.reduceGT, Int.reduceGE, e0, gp6, g86, and_self, implies_true, or_true, List.reduceReplicate, List.flatten_cons, List.flatten_nil, List.cons_append, List.nil_append, List.append_nil, List.length_set, Sl.cells hB6.1, ↓Sl.plain hB6.1]
    have k7 : Keep h6 (h6.push (Blk 26 [Value.int IntKind.u8 f.typ, wc])) [] := (Keep.refl _ _).push _
    have g7 : (h6.push (Blk 26 [Value.int IntKind.u8 f.typ, wc]))[h6.size]? = some (Blk 26 [u8 f.typ, wc]) := push_new _ _
    refine ⟨.inr fun _ => ⟨k7.get gp6 (by simp), k7.get g86 (by simp)⟩, ?_⟩
    generalize h6.push (Blk 26 [Value.int IntKind.u8 f.typ, wc]) = h7 at *
    have k47 : Keep h4 h7 [] := (k5.trans k6).trans k7
    have hFo7 := b4.que.keep k47 (by simp) (by simp)
    have gp7 := k7.get gp6 (by simp)
    refine ap_fs hFo7 (Fr.block g7 (hB6.keep0 k7) hff) (by simp; omega) ?_
    intro r8 h8 hFo8 k8 f8
    have gp8 := k8.get gp7 (Sl.nin hFo7.sl gp7 (by omega))
    have g88 := k8.get (k7.get g86 (by simp)) (fun hx => by have := Sl.lt b4.que.sl _ hx; omega)
    refine ⟨.inr fun _ => ⟨gp8, g88⟩, ?_⟩
    have wn : IntKind.i64.wrap ((i : Int) + 1) = ((i + 1 : Nat) : Int) := by rw [w_i64 (by omega) (by omega)]; omega
    simp -implicitDefEqProofs only [go_sem, ↓reduceIte, Nat.reduceEqDiff, Nat.reduceAdd, Nat.reduceMul, Nat.reduceLT, Nat.reduceLeDiff, reduceCtorEq, Int.reduceLT, Int.reduceLE, Int.reduceToNat, Int.reduceAdd, Int.reduceSub, Int.reduceNeg, Nat.reduceSub, Int.reduceEq, Int.reduceNe, Int.reduceGT, Int.reduceGE, e28, e27, e26, gp8, wn, Sl.cells hFo8.sl, ↓Sl.plain hFo8.sl]
    have k9 : Keep h8 (hput h8 p 2 [r8]) [p] := (Keep.refl _ _).hput (.inl (by simp)) _ _
    have hbn : ∀ {u : Value} {l : List Nat}, Bo 5 h8 u l → ∀ x ∈ blk u, x ∉ [p] := fun {u} {l} q x hx => by
      simp; rintro rfl; exact Sl.nin q.1 gp8 (by omega) hx
    have ho8 : Bo 5 h8 o out := ((b4.out.keep0 k47).keep k8 (Sl.dj (b4.out.keep0 k47).1 hFo7.sl (by omega)))
    have e9 : fs ++ gs.take (i + 1) = fs ++ gs.take i ++ [f] := by rw [List.take_add_one, hfi, List.append_assoc]; rfl
    refine ⟨gs.length - (i + 1), by omega, i + 1, r8, vs' ++ [wc], rfl, by omega, rfl, ⟨by rw [hput_same, gp8]; rfl, ?_, ho8.keep k9 (hbn ho8), ?_⟩, ?_, ?_⟩
    · rw [e9]
      exact hFo8.keep k9 (fun x hx => by simp; rintro rfl; exact Sl.nin hFo8.sl gp8 (by omega) hx) (fun u hu x hx => by
        obtain ⟨l, hl⟩ := hFo8.fr.bo u hu
        exact hbn hl x hx)
    · intro u hu x hx hx'
      rcases List.mem_append.1 hu with h1 | h1
      · exact b4.sep u h1 x hx hx'
      · obtain rfl : u = wc := by simpa using h1
        have h1 := f6 x hx
        have h2 := Bo.lt b4.out x hx'
        have := k5.size
        omega
    · refine Keep.trans (Keep.trans' (k4.trans (k47.mono (by simp))) k8 ?_) (k9.mono (by simp))
      intro x hx
      rcases hq4 x hx with h1 | h1
      · exact .inl (List.mem_cons_of_mem _ h1)
      · exact .inr h1
    · intro x hx
      rcases f8 x hx with h1 | h1
      · exact hq4 x h1
      · exact .inr (Nat.le_trans (Nat.le_trans k4.size k47.size) h1)
  · obtain rfl : i = gs.length := by omega
    simp -implicitDefEqProofs only [go_sem, ↓reduceIte, Nat.reduceEqDiff, Nat.reduceAdd, Nat.reduceMul, Nat.reduceLT, Nat.reduceLeDiff, reduceCtorEq, Int.reduceLT, Int.reduceLE, Int.reduceToNat, Int.reduceAdd, Int.reduceSub, Int.reduceNeg, Nat.reduceSub, Int.reduceEq, Int.reduceNe, Int.reduceGT, Int.reduceGE, e28, e27, Int.lt_irrefl, Tryd.results13]
    rw [List.take_length] at b4
    exact ⟨q', vs', b4, k4, hq4⟩
end
end Go.Proofs.Tryd
