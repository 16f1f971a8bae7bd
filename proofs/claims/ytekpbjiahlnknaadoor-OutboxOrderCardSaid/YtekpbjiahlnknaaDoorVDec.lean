/- A decoder that is fed. Its conditions: what it has, and what comes, is whole frames, and a beginning of one. -/
import Derived.Test.YtekpbjiahlnknaaDoorVFrOwn
namespace Go.Proofs.Tryd
open Go.H
set_option maxRecDepth 100000
set_option maxHeartbeats 4000000
set_option linter.unusedSimpArgs false
set_option linter.unusedVariables false

/-- A decoder: its bytes, how many frames it found. -/
structure Dec (h : Heap) (p : Nat) (l : List Nat) (v : Value) (n : Nat) : Prop where
  at_ : h[p]? = some (Blk 34 [v, .int .i64 n, .nilIface])
  bo : Bo 5 h v l

theorem bytes_le' : ∀ (fs : List Fra), (∀ f ∈ fs, f.fit) → (fs.flatMap Fra.bytes).length ≤ 4111 * fs.length := fun fs h => bytes_le fs fun f hf => (h f hf).len

theorem Feed_calls {h : Heap} {p n : Nat} {l m t : List Nat} {v x : Value} {fs : List Fra} (hd : Dec h p l v n) (hx : Bs h x m) (he : l ++ m = fs.flatMap Fra.bytes ++ t)
    (hf : ∀ f ∈ fs, f.fit) (ht : nextF t = some none) (hl : (l ++ m).length ≤ 1073741824) (hn : n + fs.length ≤ 1048576) :
    CallsH Tryd.prog 17 #[.pointer (some ⟨p, 0, none⟩), x] h (fun res h' => ∃ r v' vs, res = .tuple #[r, .nilIface] ∧ Fo h' r fs vs ∧ Dec h' p t v' (n + fs.length) ∧
      Fresh h v' ∧ Fresh h r ∧ (∀ w ∈ vs, Fresh h w ∧ ∀ b ∈ blk w, b ∉ blk v') ∧ Keep h h' (p :: blk v)) := by
  obtain ⟨hp, hB⟩ := hd
  have hpv : p ∉ blk v := Sl.nin hB.1 hp (by omega)
  have hlm : l.length + m.length ≤ 1073741824 := by simpa using hl
  refine CallsH.of_code (args := [_, _]) Tryd.func17 rfl (by kernel_rfl) ?_
  simp -implicitDefEqProofs only [go_sem, ↓reduceIte, Nat.reduceEqDiff, Nat.reduceAdd, Nat.reduceMul, Nat.reduceLT, Nat.reduceLeDiff, reduceCtorEq, Int.reduceLT, Int.reduceLE, Int.reduceToNat, Int.reduceAdd, Int.reduceSub, Int.reduceNeg, Nat.reduceSub, Int.reduceEq, Int.reduceNe, Int.reduceGT, Int.reduceGE, hp]
  refine ap_b hB hx (by omega) ?_
  intro v1 h1 hB1 k1 f1
  have hp1 := k1.get hp hpv
  simp -implicitDefEqProofs only [go_sem, ↓reduceIte, Nat.reduceEqDiff, Nat.reduceAdd, Nat.reduceMul, Nat.reduceLT, Nat.reduceLeDiff, reduceCtorEq, Int.reduceLT, Int.reduceLE, Int.reduceToNat, Int.reduceAdd, Int.reduceSub, Int.reduceNeg, Nat.reduceSub, Int.reduceEq, Int.reduceNe, Int.reduceGT, Int.reduceGE, hp1, Sl.cells hB1.1, ↓Sl.plain hB1.1]
  have hpv1 : p ∉ blk v1 := Sl.nin hB1.1 hp1 (by omega)
  have k2 : Keep h1 (hput h1 p 0 [v1]) [p] := (Keep.refl _ _).hput (.inl (by simp)) _ _
  have hp2 : (hput h1 p 0 [v1])[p]? = some (Blk 34 [v1, .int .i64 n, .nilIface]) := by rw [hput_same, hp1]; rfl
  have hB2 : Bo 5 (hput h1 p 0 [v1]) v1 (l ++ m) := hB1.keep k2 (fun b hb => by simp; rintro rfl; exact hpv1 hb)
  have k02 : Keep h (hput h1 p 0 [v1]) (p :: blk v) := (k1.mono fun x hx => List.mem_cons_of_mem _ hx).trans (k2.mono (by simp))
  generalize hput h1 p 0 [v1] = h2 at *
  refine loop_dec (fun z e h' => ∃ (i : Nat) (r : Value) (vb : Value) (vs : List Value), z = fs.length - i ∧ i ≤ fs.length ∧ e 0 = .pointer (some ⟨p, 0, none⟩) ∧ e 6 = r ∧ e 5 = .nilIface ∧ Fo h' r (fs.take i) vs ∧
      h'[p]? = some (Blk 34 [vb, .int .i64 ((n + i : Nat) : Int), .nilIface]) ∧ Bo 5 h' vb ((fs.drop i).flatMap Fra.bytes ++ t) ∧ Fresh h r ∧ (∀ w ∈ vs, Fresh h w) ∧ Keep h h' (p :: blk v)) fs.length
    ⟨0, .slice none 0 0, v1, [], by simp, by omega, rfl, rfl, rfl, Fo.nil _, hp2, by rw [List.drop_zero, ← he]; exact hB2, Fresh.none _ _ _, by simp, k02⟩ ?_
  rintro z e h3 ⟨i, r, vb, vs, rfl, hi, e0, e6, e5, hFo, hp3, hB3, hFr, hFv, k3⟩
  have hrl : ((fs.drop i).flatMap Fra.bytes ++ t).length ≤ 1073741824 := by
    have h9 : (fs.flatMap Fra.bytes ++ t).length ≤ 1073741824 := by rw [← he]; exact hl
    have : (fs.flatMap Fra.bytes).length = ((fs.take i).flatMap Fra.bytes).length + ((fs.drop i).flatMap Fra.bytes).length := by
      rw [← List.length_append, ← List.flatMap_append, List.take_append_drop]
    simp only [List.length_append] at h9 ⊢
    omega
  by_cases hlt : i < fs.length
  · obtain ⟨f, hfi⟩ : ∃ f, fs[i]? = some f := ⟨fs[i], by simp [hlt]⟩
    have hdrop : fs.drop i = f :: fs.drop (i + 1) := by
      have := List.drop_eq_getElem_cons hlt
      rw [List.getElem?_eq_getElem hlt] at hfi
      rw [this, Option.some.inj hfi]
    have hff : f.fit := hf f (List.mem_of_getElem? hfi)
    have hnx : nextF ((fs.drop i).flatMap Fra.bytes ++ t) = some (some (f, f.bytes.length)) := by
      rw [hdrop, List.flatMap_cons, List.append_assoc]
      exact next_whole hff _
    have hbl := bytes_length f
    have hrest : ((fs.drop i).flatMap Fra.bytes ++ t).drop f.bytes.length = (fs.drop (i + 1)).flatMap Fra.bytes ++ t := by
      rw [hdrop, List.flatMap_cons, List.append_assoc, List.drop_left]
    have hrlen : f.bytes.length ≤ ((fs.drop i).flatMap Fra.bytes ++ t).length := by
      rw [hdrop, List.flatMap_cons, List.append_assoc, List.length_append]; omega
    generalize (fs.drop i).flatMap Fra.bytes ++ t = R at *
    obtain ⟨ab, capb, rfl, hcapb, _, _⟩ := hB3.bs.open
    simp -implicitDefEqProofs only [go_sem, ↓reduceIte, Nat.reduceEqDiff, Nat.reduceAdd, Nat.reduceMul, Nat.reduceLT, Nat.reduceLeDiff, reduceCtorEq, Int.reduceLT, Int.reduceLE, Int.reduceToNat, Int.reduceAdd, Int.reduceSub, Int.reduceNeg, Nat.reduceSub, Int.reduceEq, Int.reduceNe, Int.reduceGT, Int.reduceGE, e0, hp3]
    refine (next_calls hB3.bs (by omega) hnx).mono ?_
    rintro _ h4 ⟨⟨w, rfl, hBw, hFw, _⟩, k4⟩
    have hne : ¬ ((f.bytes.length : Nat) : Int) = 0 := by omega
    simp -implicitDefEqProofs only [go_sem, ↓reduceIte, Nat.reduceEqDiff, Nat.reduceAdd, Nat.reduceMul, Nat.reduceLT, Nat.reduceLeDiff, reduceCtorEq, Int.reduceLT, Int.reduceLE, Int.reduceToNat, Int.reduceAdd, Int.reduceSub, Int.reduceNeg, Nat.reduceSub, Int.reduceEq, Int.reduceNe, Int.reduceGT, Int.reduceGE, e0, e6, e5, push_get, hput_get, hput_size, Array.size_push, Nat.left_eq_add, Nat.add_eq_left, Nat.add_left_cancel_iff, Nat.reduceEqDiff, hne, List.reduceReplicate, List.flatten_cons, List.flatten_nil, List.cons_append, List.nil_append, List.append_nil, List.length_set, Sl.cells hBw.1, ↓Sl.plain hBw.1]
    have k5 : Keep h4 (Array.push (hput (Array.push h4 (Blk 26 [.int .u8 0, .slice none 0 0])) h4.size 0 [.int .u8 f.typ, w]) (Blk 26 [.int .u8 f.typ, w])) [] := (((Keep.refl _ _).push _).hput (.inr (Nat.le_refl _)) _ _).push _
    have hn5 : (Array.push (hput (Array.push h4 (Blk 26 [.int .u8 0, .slice none 0 0])) h4.size 0 [.int .u8 f.typ, w]) (Blk 26 [.int .u8 f.typ, w]))[h4.size + 1]? = some (Blk 26 [u8 f.typ, w]) := by
      have : h4.size + 1 = (hput (Array.push h4 (Blk 26 [.int .u8 0, .slice none 0 0])) h4.size 0 [.int .u8 f.typ, w]).size := by simp [hput_size]
      rw [this]; exact push_new _ _
    generalize Array.push (hput (Array.push h4 (Blk 26 [.int .u8 0, .slice none 0 0])) h4.size 0 [.int .u8 f.typ, w]) (Blk 26 [.int .u8 f.typ, w]) = h5 at *
    have k35 := k4.trans k5
    refine ap_fs (hFo.keep k35 (by simp) (by simp)) (Fr.block hn5 (hBw.keep0 k5) hff) (by simp; omega) ?_
    intro r6 h6 hFo6 k6 f6
    have hp5 := k35.get hp3 (by simp)
    have hFo5 := hFo.keep k35 (by simp) (by simp)
    have hp6 := k6.get hp5 (Sl.nin hFo5.sl hp5 (by omega))
    have hB6 := (hB3.keep0 k35).keep k6 (Sl.dj (hB3.keep0 k35).1 hFo5.sl (by omega))
    have wn : IntKind.i64.wrap (((n + i : Nat) : Int) + 1) = ((n + (i + 1) : Nat) : Int) := by rw [w_i64 (by omega) (by omega)]; omega
    have hle : ((f.bytes.length : Nat) : Int) ≤ (R.length : Int) := by omega
    refine drawH_reads (.read 0 false (.read 1 false (.read 2 false (.read 3 false (.read 4 false (.read 5 true (.read 6 false (.read 7 false (.read 8 false (.read 9 false (.read 10 false (.read 11 true (.read 12 false (.read 13 false (.read 14 false (.act 15 true (.read 16 false (.read 17 false (.act 18 true .done))))))))))))))))))) (by kernel_rfl) (by kernel_rfl) ?_
    simp -implicitDefEqProofs only [go_sem, ↓reduceIte, Nat.reduceEqDiff, Nat.reduceAdd, Nat.reduceMul, Nat.reduceLT, Nat.reduceLeDiff, reduceCtorEq, Int.reduceLT, Int.reduceLE, Int.reduceToNat, Int.reduceAdd, Int.reduceSub, Int.reduceNeg, Nat.reduceSub, Int.reduceEq, Int.reduceNe, Int.reduceGT, Int.reduceGE, e0, e6, e5, hp6, hle, wn, forall_eq, Int.toNat_natCast]
    have hcut := hB6.cut (lo := f.bytes.length) (hi := R.length) (mx := capb) hrlen (Nat.le_refl _) hcapb (Nat.le_refl _)
    rw [hrest, List.take_of_length_le (by rw [← hrest]; simp)] at hcut
    generalize hV : Value.slice (if capb = f.bytes.length then ab else Option.map (fun x => x.add (f.bytes.length * 1)) ab) (R.length - f.bytes.length) (capb - f.bytes.length) = V at *
    have k7 : Keep h6 (hput (hput h6 p 0 [V]) p 1 [Value.int IntKind.i64 ↑(n + (i + 1))]) [p] := ((Keep.refl _ _).hput (.inl (by simp)) _ _).hput (.inl (by simp)) _ _
    have hbn : ∀ {u : Value} {l : List Nat}, Bo 5 h6 u l → ∀ x ∈ blk u, x ∉ [p] := fun {u} {l} q x hx => by
      simp; rintro rfl; exact Sl.nin q.1 hp6 (by omega) hx
    refine ⟨fs.length - (i + 1), by omega, i + 1, r6, V, vs ++ [w], rfl, by omega, rfl, ?_, rfl, hcut.keep k7 (hbn hcut), ?_, ?_, ?_⟩
    · rw [List.take_add_one, hfi]
      exact hFo6.keep k7 (fun x hx => by simp; rintro rfl; exact Sl.nin hFo6.sl hp6 (by omega) hx) (fun u hu x hx => by
        obtain ⟨l, hl⟩ := hFo6.fr.bo u hu
        exact hbn hl x hx)
    · intro x hx
      rcases f6 x hx with h1 | h1
      · exact hFr x h1
      · exact Nat.le_trans (Nat.le_trans k3.size k35.size) h1
    · intro u hu
      rcases List.mem_append.1 hu with h1 | h1
      · exact hFv u h1
      · obtain rfl : u = w := by simpa using h1
        exact fun x hx => Nat.le_trans k3.size (hFw x hx)
    · exact ((k3.trans (k35.mono (by simp))).trans' k6 (fun x hx => .inr (hFr x hx))).trans (k7.mono (by simp))
  · obtain rfl : i = fs.length := by omega
    rw [List.drop_length, List.flatMap_nil, List.nil_append] at hB3
    rw [List.take_length] at hFo
    simp -implicitDefEqProofs only [go_sem, ↓reduceIte, Nat.reduceEqDiff, Nat.reduceAdd, Nat.reduceMul, Nat.reduceLT, Nat.reduceLeDiff, reduceCtorEq, Int.reduceLT, Int.reduceLE, Int.reduceToNat, Int.reduceAdd, Int.reduceSub, Int.reduceNeg, Nat.reduceSub, Int.reduceEq, Int.reduceNe, Int.reduceGT, Int.reduceGE, e0, hp3]
    refine (next_calls hB3.bs (by
      have : t.length ≤ (l ++ m).length := by rw [he]; simp
      omega) ht).mono ?_
    rintro _ h4 ⟨rfl, k4⟩
    have hp4 := k4.get hp3 (by simp)
    have k5 : Keep h4 (hput (Array.push h4 (Blk 26 [.int .u8 0, .slice none 0 0])) h4.size 0 [.int .u8 0, .slice none 0 0]) [] := ((Keep.refl _ _).push _).hput (.inr (Nat.le_refl _)) _ _
    have hp5 := k5.get hp4 (by simp)
    simp -implicitDefEqProofs only [go_sem, ↓reduceIte, Nat.reduceEqDiff, Nat.reduceAdd, Nat.reduceMul, Nat.reduceLT, Nat.reduceLeDiff, reduceCtorEq, Int.reduceLT, Int.reduceLE, Int.reduceToNat, Int.reduceAdd, Int.reduceSub, Int.reduceNeg, Nat.reduceSub, Int.reduceEq, Int.reduceNe, Int.reduceGT, Int.reduceGE, e0, e6, e5, hp5, List.reduceReplicate, List.flatten_cons, List.flatten_nil, List.cons_append, List.nil_append, List.append_nil, List.length_set]
    generalize hput (Array.push h4 (Blk 26 [.int .u8 0, .slice none 0 0])) h4.size 0 [.int .u8 0, .slice none 0 0] = h5 at *
    have k35 := k4.trans k5
    have hB5 := hB3.keep0 k35
    refine (Clone_calls hB5.bs (by
      have : t.length ≤ (l ++ m).length := by rw [he]; simp
      omega)).mono ?_
    rintro v6 h6 ⟨hB6, k6, f6⟩
    have hp6 := k6.get hp5 (by simp)
    simp -implicitDefEqProofs only [go_sem, ↓reduceIte, Nat.reduceEqDiff, Nat.reduceAdd, Nat.reduceMul, Nat.reduceLT, Nat.reduceLeDiff, reduceCtorEq, Int.reduceLT, Int.reduceLE, Int.reduceToNat, Int.reduceAdd, Int.reduceSub, Int.reduceNeg, Nat.reduceSub, Int.reduceEq, Int.reduceNe, Int.reduceGT, Int.reduceGE, e0, e6, e5, hp6, Sl.cells hB6.1, ↓Sl.plain hB6.1]
    have k7 : Keep h6 (hput h6 p 0 [v6]) [p] := (Keep.refl _ _).hput (.inl (by simp)) _ _
    have hp7 : (hput h6 p 0 [v6])[p]? = some (Blk 34 [v6, .int .i64 ((n + fs.length : Nat) : Int), .nilIface]) := by rw [hput_same, hp6]; rfl
    have hbn : ∀ {u : Value} {l : List Nat}, Bo 5 h6 u l → ∀ x ∈ blk u, x ∉ [p] := fun {u} {l} q x hx => by
      simp; rintro rfl; exact Sl.nin q.1 hp6 (by omega) hx
    generalize hput h6 p 0 [v6] = h7 at *
    refine drawH_reads (.read 0 true (.read 1 true (.read 2 true (.read 3 true (.read 4 true (.read 5 true (.read 6 true .done))))))) (by kernel_rfl) (by kernel_rfl) ?_
    simp -implicitDefEqProofs only [go_sem, ↓reduceIte, Nat.reduceEqDiff, Nat.reduceAdd, Nat.reduceMul, Nat.reduceLT, Nat.reduceLeDiff, reduceCtorEq, Int.reduceLT, Int.reduceLE, Int.reduceToNat, Int.reduceAdd, Int.reduceSub, Int.reduceNeg, Nat.reduceSub, Int.reduceEq, Int.reduceNe, Int.reduceGT, Int.reduceGE, e0, e6, e5, hp7, forall_eq, Tryd.results17]
    have hFo6 := hFo.keep (k35.trans k6) (by simp) (by simp)
    have k37 := (k35.trans k6)
    refine ⟨r, v6, vs, rfl, hFo6.keep k7 (fun x hx => by simp; rintro rfl; exact Sl.nin hFo6.sl hp6 (by omega) hx) (fun u hu x hx => by
        obtain ⟨l, hl⟩ := hFo6.fr.bo u hu
        exact hbn hl x hx), ⟨hp7, hB6.keep k7 (hbn hB6)⟩, ?_, hFr, ?_, ((k3.trans (k37.mono (by simp))).trans (k7.mono (by simp)))⟩
    · exact fun x hx => Nat.le_trans (k3.trans (k35.mono (by simp))).size (f6 x hx)
    · intro u hu
      refine ⟨hFv u hu, fun x hx hx' => ?_⟩
      obtain ⟨l, hl⟩ := hFo.fr.bo u hu
      have h1 := Bo.lt hl x hx
      have h2 := f6 x hx'
      have := k35.size
      omega
end Go.Proofs.Tryd
