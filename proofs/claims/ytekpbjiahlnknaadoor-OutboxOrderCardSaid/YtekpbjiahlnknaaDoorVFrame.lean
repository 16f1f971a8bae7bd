/- Frames as bytes. Its conditions: no more than 2^30 frames. -/
import Derived.Test.YtekpbjiahlnknaaDoorVUpto
import Derived.Test.YtekpbjiahlnknaaDoorVSum
namespace Go.Proofs.Tryd
open Go.H
set_option maxRecDepth 100000
set_option linter.unusedSimpArgs false
set_option linter.unusedVariables false

/-- A frame: its type, its bytes. -/
structure Fra where
  typ : Nat
  body : List Nat
def Fra.ok (f : Fra) : Prop := f.typ < 256 ∧ f.body.length ≤ 1099511627776
/-- A frame's bytes without the sum, and with it. -/
def Fra.raw (f : Fra) : List Nat := 181 :: f.typ :: (putF f.body.length ++ f.body)
def Fra.bytes (f : Fra) : List Nat := f.raw ++ crcB f.raw
/-- The cells of frames whose bodies are these values. -/
def fcells : List Fra → List Value → List Value
  | f :: fs, v :: vs => u8 f.typ :: v :: fcells fs vs
  | _, _ => []
/-- A row of frames that is read. -/
structure Fs (h : Heap) (v : Value) (fs : List Fra) (vs : List Value) : Prop where
  sr : SR h 2 v fs.length (fcells fs vs)
  len : vs.length = fs.length
  body : ∀ (i : Nat) f w, fs[i]? = some f → vs[i]? = some w → Bs h w f.body ∧ f.typ < 256

theorem fcells_get : ∀ (fs : List Fra) (vs : List Value) (i : Nat) (f : Fra) (w : Value), fs[i]? = some f → vs[i]? = some w → (fcells fs vs)[i * 2]? = some (u8 f.typ) ∧ (fcells fs vs)[i * 2 + 1]? = some w
  | f :: fs, v :: vs, 0, f', w, h1, h2 => by
    simp at h1 h2
    subst h1 h2
    simp [fcells]
  | f :: fs, v :: vs, i + 1, f', w, h1, h2 => by
    have := fcells_get fs vs i f' w (by simpa using h1) (by simpa using h2)
    rw [show (i + 1) * 2 = i * 2 + 2 from by omega]
    simpa [fcells] using this
  | [], _, i, f', w, h1, h2 => by simp at h1
  | f :: fs, [], i, f', w, h1, h2 => by simp at h2
theorem fcells_length : ∀ (fs : List Fra) (vs : List Value), vs.length = fs.length → (fcells fs vs).length = fs.length * 2
  | [], vs, _ => by simp [fcells]
  | f :: fs, [], h => by simp at h
  | f :: fs, v :: vs, h => by
    have := fcells_length fs vs (by simpa using h)
    simp [fcells, this]; omega
/-- The cells of the frame at i. -/
theorem Fs.at {h : Heap} {b o cap n : Nat} {fs : List Fra} {vs : List Value} (hv : Fs h (.slice (some ⟨b, o, none⟩) n cap) fs vs) {i : Nat} {f : Fra} {w : Value} (hf : fs[i]? = some f) (hw : vs[i]? = some w) :
    (h[b]?).bind (objCells (o + i * 2) 2) = some [u8 f.typ, w] := by
  obtain ⟨⟨a, cap', e, h1, h2, h3⟩, hl⟩ := hv.sr
  cases e
  have hi : i < fs.length := (List.getElem?_eq_some_iff.1 hf).1
  have hcl := fcells_length fs vs hv.len
  have := h3.read (k := i * 2) (m := 2) (by omega)
  rw [add_none, readCells_eq] at this
  rw [this]
  congr 1
  obtain ⟨g1, g2⟩ := fcells_get fs vs i f w hf hw
  apply List.ext_getElem?
  intro j
  rw [List.getElem?_take, List.getElem?_drop]
  match j with
  | 0 => simpa using g1
  | 1 => simpa using g2
  | j + 2 =>
    rw [if_neg (by omega)]
    rfl

theorem SR.block {h : Heap} {b : Nat} {t : TypeId} {l : List Value} (hb : h[b]? = some (Blk t l)) : SR h 1 (.slice (some ⟨b, 0, none⟩) l.length l.length) l.length l := by
  refine ⟨⟨some ⟨b, 0, none⟩, l.length, rfl, Nat.le_refl _, by simp, ?_⟩, by simp⟩
  exact .inr ⟨b, 0, l.toArray, t, (0, 0), rfl, hb, fun i hi => by rw [Nat.zero_add, List.getElem?_toArray]⟩

theorem bytes_le : ∀ (fs : List Fra), (∀ f ∈ fs, f.body.length ≤ 4096) → (fs.flatMap Fra.bytes).length ≤ 4111 * fs.length
  | [], _ => by simp
  | f :: fs, h => by
    have h1 := h f (by simp)
    have h2 := bytes_le fs (fun g hg => h g (by simp [hg]))
    have h3 := sizeF_range f.body.length
    have h4 := putF_length f.body.length
    simp only [List.flatMap_cons, List.length_append, List.length_cons, Fra.bytes, Fra.raw, crcB_length, h4]
    omega

theorem Bytes_calls {h : Heap} {v : Value} {fs : List Fra} {vs : List Value} (hv : Fs h v fs vs) (hl : fs.length ≤ 1048576) (hb : ∀ f ∈ fs, f.body.length ≤ 4096) :
    CallsH Tryd.prog 63 #[v] h (fun r h' => ∃ b, r = .tuple #[b, .nilIface] ∧ Bo 5 h' b (fs.flatMap Fra.bytes) ∧ Fresh h b ∧ Keep h h' []) := by
  obtain ⟨⟨a, cap, rfl, h1, h2, h3⟩, hlc⟩ := hv.sr
  refine CallsH.of_code (args := [_]) Tryd.func63 rfl (by kernel_rfl) ?_
  simp -implicitDefEqProofs only [go_sem, ↓reduceIte, Nat.reduceEqDiff, Nat.reduceAdd, Nat.reduceMul, Nat.reduceLT, Nat.reduceLeDiff, reduceCtorEq, Int.reduceLT, Int.reduceLE, Int.reduceToNat, Int.reduceAdd, Int.reduceSub, Int.reduceNeg, Nat.reduceSub, Int.reduceEq, Int.reduceNe, Int.reduceGT, Int.reduceGE]
  refine loop_dec (fun n e h' => ∃ (i : Nat) (r : Value), n = fs.length - i ∧ i ≤ fs.length ∧ e 10 = .int .i64 i ∧ e 9 = .int .i64 fs.length ∧ e 8 = .slice a fs.length cap ∧ e 3 = .nilIface ∧ e 4 = r ∧ Bo 5 h' r ((fs.take i).flatMap Fra.bytes) ∧ Fresh h r ∧ Keep h h' []) fs.length
    ⟨0, _, by simp, by omega, rfl, rfl, rfl, rfl, rfl, Bo.nil _ _, Fresh.none _ _ _, Keep.refl _ _⟩ ?_
  rintro n e h' ⟨i, r, rfl, hi, e10, e9, e8, e3, e4, hB, hF, k⟩
  by_cases hlt : i < fs.length
  · have hlt' : (i : Int) < fs.length := by omega
    obtain ⟨f, hf⟩ : ∃ f, fs[i]? = some f := ⟨fs[i], by simp [hlt]⟩
    obtain ⟨w, hw⟩ : ∃ w, vs[i]? = some w := ⟨vs[i]'(by rw [hv.len]; exact hlt), by simp⟩
    obtain ⟨b, o, rfl⟩ : ∃ b o, a = some ⟨b, o, none⟩ := by
      rcases h3 with h3 | ⟨b, o, cs, t, f', e, _⟩
      · have := fcells_length fs vs hv.len
        rw [h3] at this; simp at this; omega
      · exact ⟨b, o, e⟩
    have hat := hv.at hf hw
    obtain ⟨hbs, htyp⟩ := hv.body i f w hf hw
    have hfb := hb f (List.mem_of_getElem? hf)
    obtain ⟨a2, cap2, rfl, hc2, _⟩ := hbs.open
    have hle : ¬ (f.body.length : Int) > 4096 := by omega
    have hat' : (h'[b]?).bind (objCells (o + i * 2) 2) = some [.int .u8 f.typ, .slice a2 f.body.length cap2] := by
      cases hbb : h[b]? with
      | none => rw [hbb] at hat; cases hat
      | some x => rw [k.get hbb (by simp), ← hbb]; exact hat
    simp -implicitDefEqProofs only [go_sem, ↓reduceIte, Nat.reduceEqDiff, Nat.reduceAdd, Nat.reduceMul, Nat.reduceLT, Nat.reduceLeDiff, reduceCtorEq, Int.reduceLT, Int.reduceLE, Int.reduceToNat, Int.reduceAdd, Int.reduceSub, Int.reduceNeg, Nat.reduceSub, Int.reduceEq, Int.reduceNe, Int.reduceGT, Int.reduceGE, e10, e9, e8, hlt', Int.toNat_natCast, hat', push_get, hput_get, hput_size, Array.size_push, Nat.left_eq_add, Nat.add_eq_left, Nat.add_left_cancel_iff, Nat.reduceEqDiff, hle]
    have g0 : (h'.push (Blk 26 [.int .u8 f.typ, .slice a2 f.body.length cap2]))[h'.size]? = some (Blk 26 [.int .u8 f.typ, .slice a2 f.body.length cap2]) := push_new _ _
    rw [hput_push rfl, objPut_Blk]
    have kp : Keep h' (h'.push (Blk 26 [.int .u8 f.typ, .slice a2 f.body.length cap2])) [] := (Keep.refl _ _).push _
    show drawH _ _ _ _ (h'.push (Blk 26 [.int .u8 f.typ, .slice a2 f.body.length cap2]))
    generalize h'.push (Blk 26 [.int .u8 f.typ, .slice a2 f.body.length cap2]) = hp at *
    refine drawH_of_tree (.read 0 false (.read 1 true (.read 3 false (.read 4 true (.read 5 false (.read 6 false (.read 9 false (.read 10 true (.act2 2 false (.act 7 false (.act 8 false (.act 11 false (.read 12 false .done)))) 7 false (.act 2 false (.act 8 false (.act 11 false (.read 12 false .done))))))))))))) (fun x => x[h'.size]? = some (Blk 26 [.int .u8 f.typ, .slice a2 f.body.length cap2])) (by kernel_rfl) (by kernel_rfl) ?_
    simp -implicitDefEqProofs only [go_sem, ↓reduceIte, Nat.reduceEqDiff, Nat.reduceAdd, Nat.reduceMul, Nat.reduceLT, Nat.reduceLeDiff, reduceCtorEq, Int.reduceLT, Int.reduceLE, Int.reduceToNat, Int.reduceAdd, Int.reduceSub, Int.reduceNeg, Nat.reduceSub, Int.reduceEq, Int.reduceNe, Int.reduceGT, Int.reduceGE, g0, List.reduceReplicate, List.flatten_cons, List.flatten_nil, List.cons_append, List.nil_append, List.append_nil, List.length_set]
    have hbytes := bytes_le (fs.take i) (fun g hg => hb g (List.mem_of_mem_take hg))
    rw [List.length_take] at hbytes
    have hsr0 := sizeF_range f.body.length
    have hlt' : h'.size < hp.size := by
      have := (Array.getElem?_eq_some_iff.1 g0).1
      exact this
    have kk := k.trans kp
    have wl : IntKind.u64.wrap (f.body.length : Int) = f.body.length := w_u64 (by omega) (by omega)
    have two : ∀ o : Obj, (hp.push o)[h'.size]? = some (Blk 26 [.int .u8 f.typ, .slice a2 f.body.length cap2]) := fun o => by rw [push_old hlt', g0]
    have two' : ∀ o o' : Obj, ((hp.push o).push o')[h'.size]? = some (Blk 26 [.int .u8 f.typ, .slice a2 f.body.length cap2]) := fun o o' => by rw [push_old (by simp; omega), push_old hlt', g0]
    refine ⟨⟨.inr fun _ => two _, .inr fun _ => two' _ _, ?_⟩, .inr fun _ => two _, .inr fun _ => two' _ _, ?_⟩
    · rw [wl]
      have kq : Keep hp _ [] := ((Keep.refl hp []).push (Blk 5 [Value.int IntKind.u8 181, Value.int IntKind.u8 ↑f.typ])).push (Blk 40 [Value.int IntKind.u64 ↑f.body.length])
      refine (Put_calls (l := [181, f.typ]) (m := [f.body.length]) (Bo.block (e := 5) (b := hp.size) (by rw [push_old (by simp), push_new]; rfl) (by simp; omega)).bs (SR.block (b := (hp.push (Blk 5 [Value.int IntKind.u8 181, Value.int IntKind.u8 ↑f.typ])).size) (t := 40) (l := [.int .u64 f.body.length]) (by rw [push_new])) (by intro n hn; simp at hn; omega) (by simp) (by simp)).mono ?_
      rintro r24 h24 ⟨p1, _, k24⟩
      obtain ⟨hB24, hF24⟩ := p1 (by simp)
      have g24 := k24.get (two' _ _) (by simp)
      simp -implicitDefEqProofs only [go_sem, ↓reduceIte, Nat.reduceEqDiff, Nat.reduceAdd, Nat.reduceMul, Nat.reduceLT, Nat.reduceLeDiff, reduceCtorEq, Int.reduceLT, Int.reduceLE, Int.reduceToNat, Int.reduceAdd, Int.reduceSub, Int.reduceNeg, Nat.reduceSub, Int.reduceEq, Int.reduceNe, Int.reduceGT, Int.reduceGE, g24, implies_true]
      have kh24 : Keep h h24 [] := (kk.trans kq).trans k24
      have hlp := putF_length f.body.length
      have hsr := sizeF_range f.body.length
      refine ap_b hB24 (hbs.keep0 kh24) (by simp [hlp]; omega) ?_
      intro r7 h7 hB7 k7 f7
      have k7' := k24.trans' k7 (fun x hx => .inr (hF24 x hx))
      refine ⟨.inr fun _ => k7'.get (two' _ _) (by simp), ?_⟩
      have kh7 := (kk.trans kq).trans k7'
      refine (Seal_calls hB7.bs (by simp [hlp]; omega)).mono ?_
      rintro r8 h8 ⟨hB8, k8, f8⟩
      simp -implicitDefEqProofs only [go_sem, ↓reduceIte, Nat.reduceEqDiff, Nat.reduceAdd, Nat.reduceMul, Nat.reduceLT, Nat.reduceLeDiff, reduceCtorEq, Int.reduceLT, Int.reduceLE, Int.reduceToNat, Int.reduceAdd, Int.reduceSub, Int.reduceNeg, Nat.reduceSub, Int.reduceEq, Int.reduceNe, Int.reduceGT, Int.reduceGE, e4]
      have kh8 := kh7.trans k8
      have k78 := (kp.trans (kq.trans k7')).trans k8
      refine ap_b (hB.keep0 k78) hB8.bs (by
        have hm : min i fs.length ≤ fs.length := Nat.min_le_right _ _
        simp only [List.flatMap_cons, List.flatMap_nil, List.append_nil, List.length_append, List.length_cons, List.length_nil, crcB_length, hlp]
        omega) ?_
      intro r9 h9 hB9 k9 f9
      simp -implicitDefEqProofs only [go_sem, ↓reduceIte, Nat.reduceEqDiff, Nat.reduceAdd, Nat.reduceMul, Nat.reduceLT, Nat.reduceLeDiff, reduceCtorEq, Int.reduceLT, Int.reduceLE, Int.reduceToNat, Int.reduceAdd, Int.reduceSub, Int.reduceNeg, Nat.reduceSub, Int.reduceEq, Int.reduceNe, Int.reduceGT, Int.reduceGE, e10, e9, e8, e3]
      refine ⟨fs.length - (i + 1), by omega, i + 1, r9, rfl, by omega, ?_, rfl, ?_, ?_, ?_⟩
      · rw [w_i64 (by omega) (by omega)]; rfl
      · rw [List.take_add_one, hf, List.flatMap_append]
        simpa [Fra.bytes, Fra.raw] using hB9
      · intro x hx
        rcases f9 x hx with h1 | h1
        · exact hF x h1
        · exact Nat.le_trans kh8.size h1
      · exact kh8.trans' k9 (fun x hx => .inr (hF x hx))
    · rw [wl]
      have kq : Keep hp _ [] := ((Keep.refl hp []).push (Blk 40 [Value.int IntKind.u64 ↑f.body.length])).push (Blk 5 [Value.int IntKind.u8 181, Value.int IntKind.u8 ↑f.typ])
      refine (Put_calls (l := [181, f.typ]) (m := [f.body.length]) (Bo.block (b := (hp.push (Blk 40 [Value.int IntKind.u64 ↑f.body.length])).size) (push_new _ _) (by simp; omega)).bs (SR.block (b := hp.size) (t := 40) (l := [.int .u64 f.body.length]) (by rw [push_old (by simp), push_new])) (by intro n hn; simp at hn; omega) (by simp) (by simp)).mono ?_
      rintro r24 h24 ⟨p1, _, k24⟩
      obtain ⟨hB24, hF24⟩ := p1 (by simp)
      have g24 := k24.get (two' _ _) (by simp)
      simp -implicitDefEqProofs only [go_sem, ↓reduceIte, Nat.reduceEqDiff, Nat.reduceAdd, Nat.reduceMul, Nat.reduceLT, Nat.reduceLeDiff, reduceCtorEq, Int.reduceLT, Int.reduceLE, Int.reduceToNat, Int.reduceAdd, Int.reduceSub, Int.reduceNeg, Nat.reduceSub, Int.reduceEq, Int.reduceNe, Int.reduceGT, Int.reduceGE, g24, implies_true]
      have kh24 : Keep h h24 [] := (kk.trans kq).trans k24
      have hlp := putF_length f.body.length
      have hsr := sizeF_range f.body.length
      refine ap_b hB24 (hbs.keep0 kh24) (by simp [hlp]; omega) ?_
      intro r7 h7 hB7 k7 f7
      have k7' := k24.trans' k7 (fun x hx => .inr (hF24 x hx))
      refine ⟨.inr fun _ => k7'.get (two' _ _) (by simp), ?_⟩
      have kh7 := (kk.trans kq).trans k7'
      refine (Seal_calls hB7.bs (by simp [hlp]; omega)).mono ?_
      rintro r8 h8 ⟨hB8, k8, f8⟩
      simp -implicitDefEqProofs only [go_sem, ↓reduceIte, Nat.reduceEqDiff, Nat.reduceAdd, Nat.reduceMul, Nat.reduceLT, Nat.reduceLeDiff, reduceCtorEq, Int.reduceLT, Int.reduceLE, Int.reduceToNat, Int.reduceAdd, Int.reduceSub, Int.reduceNeg, Nat.reduceSub, Int.reduceEq, Int.reduceNe, Int.reduceGT, Int.reduceGE, e4]
      have kh8 := kh7.trans k8
      have k78 := (kp.trans (kq.trans k7')).trans k8
      refine ap_b (hB.keep0 k78) hB8.bs (by
        have hm : min i fs.length ≤ fs.length := Nat.min_le_right _ _
        simp only [List.flatMap_cons, List.flatMap_nil, List.append_nil, List.length_append, List.length_cons, List.length_nil, crcB_length, hlp]
        omega) ?_
      intro r9 h9 hB9 k9 f9
      simp -implicitDefEqProofs only [go_sem, ↓reduceIte, Nat.reduceEqDiff, Nat.reduceAdd, Nat.reduceMul, Nat.reduceLT, Nat.reduceLeDiff, reduceCtorEq, Int.reduceLT, Int.reduceLE, Int.reduceToNat, Int.reduceAdd, Int.reduceSub, Int.reduceNeg, Nat.reduceSub, Int.reduceEq, Int.reduceNe, Int.reduceGT, Int.reduceGE, e10, e9, e8, e3]
      refine ⟨fs.length - (i + 1), by omega, i + 1, r9, rfl, by omega, ?_, rfl, ?_, ?_, ?_⟩
      · rw [w_i64 (by omega) (by omega)]; rfl
      · rw [List.take_add_one, hf, List.flatMap_append]
        simpa [Fra.bytes, Fra.raw] using hB9
      · intro x hx
        rcases f9 x hx with h1 | h1
        · exact hF x h1
        · exact Nat.le_trans kh8.size h1
      · exact kh8.trans' k9 (fun x hx => .inr (hF x hx))
  · obtain rfl : i = fs.length := by omega
    simp -implicitDefEqProofs only [go_sem, ↓reduceIte, Nat.reduceEqDiff, Nat.reduceAdd, Nat.reduceMul, Nat.reduceLT, Nat.reduceLeDiff, reduceCtorEq, Int.reduceLT, Int.reduceLE, Int.reduceToNat, Int.reduceAdd, Int.reduceSub, Int.reduceNeg, Nat.reduceSub, Int.reduceEq, Int.reduceNe, Int.reduceGT, Int.reduceGE, e10, e9, e3, e4, Int.lt_irrefl, Tryd.results63]
    rw [List.take_length] at hB
    exact ⟨_, rfl, hB, hF, k⟩
end Go.Proofs.Tryd
