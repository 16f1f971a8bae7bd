/- Frames that are put, taken in pieces, fed and acknowledged, come as they were. Its conditions: none. -/
import Derived.Test.YtekpbjiahlnknaaDoorVObLives
namespace Go.Proofs.Tryd
open Go.H
set_option maxRecDepth 100000
set_option maxHeartbeats 4000000
set_option linter.unusedSimpArgs false
set_option linter.unusedVariables false

theorem Fs.keep0 {h h' : Heap} {v : Value} {fs : List Fra} {vs : List Value} (s : Fs h v fs vs) (k : Keep h h' []) : Fs h' v fs vs :=
  ⟨s.sr.keep0 k, s.len, fun i f w h1 h2 => ⟨(s.body i f w h1 h2).1.keep0 k, (s.body i f w h1 h2).2⟩⟩

theorem fr_nextF {S : List Fra} {t r : List Nat} (hf : ∀ f ∈ S, f.fit) (h : t ++ r = S.flatMap Fra.bytes) (hlt : ∀ g G, S = g :: G → t.length < g.bytes.length) : nextF t = some none := by
  cases S with
  | nil =>
    have : t = [] := by
      have := congrArg List.length h
      simp at this
      simpa using this.1
    subst this
    exact next_nil
  | cons g G =>
    have h1 := hlt g G rfl
    refine next_part (hf g (by simp)) ?_ h1
    apply List.prefix_of_prefix_length_le (l₃ := t ++ r)
    · exact List.prefix_append _ _
    · rw [h]; simp
    · omega
theorem rQ_cvb {P : Program} {h : Heap} {N : Value → Prop} (s t : TypeId) {e : TypeId} (ht : stB P t = true) (hs : eltT P s = some e) (he : intT P e = some .u8) {v : Value} {l : List Nat} (hv : Bs h v l) :
    rQ (fun K x => cvH P s t v K x) (fun x => x = h) h N = N (.string (strOf l)) := by
  rw [rQ_one]
  simp only [cv_bytes s t ht hs he hv]
  apply propext
  constructor
  · rintro ⟨u, ⟨rfl, _⟩, hn⟩; exact hn
  · exact fun hn => ⟨_, ⟨rfl, trivial⟩, hn⟩
/-- What holds at the head of the law's loop. -/
structure Obi (h0 h : Heap) (fs : List Fra) (p d most c' : Nat) (G S Q : List Fra) (t out : List Nat) (q o vd got : Value) (vsQ vsG : List Value) : Prop where
  all : fs = G ++ S ++ Q
  bytes : t ++ out = S.flatMap Fra.bytes
  part : ∀ g G', S = g :: G' → t.length < g.bytes.length
  cred : S.length ≤ c'
  box : Box h p most c' q Q vsQ S.length o out
  dec : Dec h d t vd G.length
  gt : Fo h got G vsG
  s1 : ∀ x ∈ blk vd, x ∉ blk o
  s2 : ∀ w ∈ vsG, ∀ x ∈ blk w, x ∉ blk o ∧ x ∉ blk vd
  s3 : ∀ w ∈ vsQ, ∀ x ∈ blk w, x ∉ blk vd
  s4 : ∀ x ∈ blk got, x ∉ blk q
  fp : h0.size ≤ p
  fd : h0.size ≤ d
  fq : Fresh h0 q
  fo : Fresh h0 o
  fv : Fresh h0 vd
  fg : Fresh h0 got
  keep : Keep h0 h []

theorem OutboxOrder_calls {h : Heap} {v : Value} {fs : List Fra} {vs : List Value} (hv : Fs h v fs vs) (c pc : Nat) (hc : c < 256) (hpc : pc < 256) :
    CallsH Tryd.prog 3 #[v, .int .u8 c, .int .u8 pc] h (fun r h' => r = .bool true ∧ Keep h h' []) := by
  obtain ⟨⟨a, cap, rfl, h1, h2, h3⟩, hlc⟩ := hv.sr
  refine CallsH.of_code (args := [_, _, _]) Tryd.func3 rfl (by kernel_rfl) ?_
  simp -implicitDefEqProofs only [go_sem, ↓reduceIte, Nat.reduceEqDiff, Nat.reduceAdd, Nat.reduceMul, Nat.reduceLT, Nat.reduceLeDiff, reduceCtorEq, Int.reduceLT, Int.reduceLE, Int.reduceToNat, Int.reduceAdd, Int.reduceSub, Int.reduceNeg, Nat.reduceSub, Int.reduceEq, Int.reduceNe, Int.reduceGT, Int.reduceGE]
  refine (oblives_calls h).mono ?_
  rintro _ hA ⟨rfl, kA⟩
  by_cases hbig : (fs.length : Int) > 40
  · simp -implicitDefEqProofs only [go_sem, ↓reduceIte, Nat.reduceEqDiff, Nat.reduceAdd, Nat.reduceMul, Nat.reduceLT, Nat.reduceLeDiff, reduceCtorEq, Int.reduceLT, Int.reduceLE, Int.reduceToNat, Int.reduceAdd, Int.reduceSub, Int.reduceNeg, Nat.reduceSub, Int.reduceEq, Int.reduceNe, Int.reduceGT, Int.reduceGE, hbig]
    refine (oblives_calls hA).mono ?_
    rintro _ hB ⟨rfl, kB⟩
    simp -implicitDefEqProofs only [go_sem, ↓reduceIte, Nat.reduceEqDiff, Nat.reduceAdd, Nat.reduceMul, Nat.reduceLT, Nat.reduceLeDiff, reduceCtorEq, Int.reduceLT, Int.reduceLE, Int.reduceToNat, Int.reduceAdd, Int.reduceSub, Int.reduceNeg, Nat.reduceSub, Int.reduceEq, Int.reduceNe, Int.reduceGT, Int.reduceGE, Tryd.results3]
    exact kA.trans kB
  simp -implicitDefEqProofs only [go_sem, ↓reduceIte, Nat.reduceEqDiff, Nat.reduceAdd, Nat.reduceMul, Nat.reduceLT, Nat.reduceLeDiff, reduceCtorEq, Int.reduceLT, Int.reduceLE, Int.reduceToNat, Int.reduceAdd, Int.reduceSub, Int.reduceNeg, Nat.reduceSub, Int.reduceEq, Int.reduceNe, Int.reduceGT, Int.reduceGE, hbig]
  refine loop_dec (fun z e h' => ∃ (i : Nat), z = fs.length - i ∧ i ≤ fs.length ∧ e 27 = .int .i64 i ∧ e 26 = .int .i64 fs.length ∧ e 25 = .slice a fs.length cap ∧ e 0 = .slice a fs.length cap ∧ e 1 = .int .u8 c ∧ e 2 = .int .u8 pc ∧
      Keep h h' [] ∧ ∀ f ∈ fs.take i, f.body.length ≤ 4096) fs.length
    ⟨0, by simp, by omega, rfl, rfl, rfl, rfl, rfl, rfl, kA, by simp⟩ ?_
  rintro z e h4 ⟨i, rfl, hi, e27, e26, e25, e0, e1, e2, k4, hsm⟩
  by_cases hlt : i < fs.length
  · have hlt' : (i : Int) < fs.length := by omega
    obtain ⟨f, hfi⟩ : ∃ f, fs[i]? = some f := ⟨fs[i], by simp [hlt]⟩
    obtain ⟨w, hw⟩ : ∃ w, vs[i]? = some w := ⟨vs[i]'(by rw [hv.len]; exact hlt), by simp⟩
    have hl4 := hv.keep0 k4
    obtain ⟨bl, ol, rfl⟩ : ∃ b o, a = some ⟨b, o, none⟩ := by
      rcases h3 with h3 | ⟨b, o, cs, t, f', e, _⟩
      · have := fcells_length fs vs hv.len
        rw [h3] at this; simp at this; omega
      · exact ⟨b, o, e⟩
    have hat := hl4.at hfi hw
    obtain ⟨hbs, htyp⟩ := hl4.body i f w hfi hw
    obtain ⟨aw, capw, rfl, hcw, _⟩ := hbs.open
    replace hat : (h4[bl]?).bind (objCells (ol + i * 2) 2) = some [.int .u8 f.typ, .slice aw f.body.length capw] := hat
    have k5 : Keep h4 (hput (h4.push (Blk 26 [.int .u8 0, .slice none 0 0])) h4.size 0 [.int .u8 f.typ, .slice aw f.body.length capw]) [] := ((Keep.refl _ _).push _).hput (.inr (Nat.le_refl _)) _ _
    by_cases hgt : (f.body.length : Int) > 4096
    · simp -implicitDefEqProofs only [go_sem, ↓reduceIte, Nat.reduceEqDiff, Nat.reduceAdd, Nat.reduceMul, Nat.reduceLT, Nat.reduceLeDiff, reduceCtorEq, Int.reduceLT, Int.reduceLE, Int.reduceToNat, Int.reduceAdd, Int.reduceSub, Int.reduceNeg, Nat.reduceSub, Int.reduceEq, Int.reduceNe, Int.reduceGT, Int.reduceGE, e27, e26, e25, e0, e1, e2, hlt', Int.toNat_natCast, hat, push_get, hput_get, hput_size, Array.size_push, Nat.left_eq_add, Nat.add_eq_left, Nat.add_left_cancel_iff, Nat.reduceEqDiff, List.reduceReplicate, List.flatten_cons, List.flatten_nil, List.cons_append, List.nil_append, List.append_nil, List.length_set, hgt, Tryd.results3]
      exact k4.trans k5
    · have wn : IntKind.i64.wrap ((i : Int) + 1) = ((i + 1 : Nat) : Int) := by rw [w_i64 (by omega) (by omega)]; omega
      simp -implicitDefEqProofs only [go_sem, ↓reduceIte, Nat.reduceEqDiff, Nat.reduceAdd, Nat.reduceMul, Nat.reduceLT, Nat.reduceLeDiff, reduceCtorEq, Int.reduceLT, Int.reduceLE, Int.reduceToNat, Int.reduceAdd, Int.reduceSub, Int.reduceNeg, Nat.reduceSub, Int.reduceEq, Int.reduceNe, Int.reduceGT, Int.reduceGE, e27, e26, e25, e0, e1, e2, hlt', Int.toNat_natCast, hat, push_get, hput_get, hput_size, Array.size_push, Nat.left_eq_add, Nat.add_eq_left, Nat.add_left_cancel_iff, Nat.reduceEqDiff, List.reduceReplicate, List.flatten_cons, List.flatten_nil, List.cons_append, List.nil_append, List.append_nil, List.length_set, hgt, wn]
      refine ⟨fs.length - (i + 1), by omega, i + 1, rfl, by omega, rfl, k4.trans k5, ?_⟩
      intro g hg
      rw [List.take_add_one, hfi] at hg
      rcases List.mem_append.1 hg with h8 | h8
      · exact hsm g h8
      · obtain rfl : g = f := by simpa using h8
        omega
  obtain rfl : i = fs.length := by omega
  rw [List.take_length] at hsm
  have hfit : ∀ f ∈ fs, f.fit := by
    intro f hf
    obtain ⟨i, hi⟩ := List.getElem?_of_mem hf
    have hlt := (List.getElem?_eq_some_iff.1 hi).1
    have := hv.body i f _ hi (List.getElem?_eq_getElem (by rw [hv.len]; exact hlt))
    exact ⟨this.2, hsm f hf, this.1.2⟩
  have w1 : IntKind.i64.wrap ((fs.length : Int) + 1) = ((fs.length + 1 : Nat) : Int) := by rw [w_i64 (by omega) (by omega)]; omega
  have w2 : IntKind.i64.wrap (c : Int) = (c : Int) := w_i64 (by omega) (by omega)
  have w3 : IntKind.i64.wrap (1 + (c : Int)) = ((c + 1 : Nat) : Int) := by rw [w_i64 (by omega) (by omega)]; omega
  simp -implicitDefEqProofs only [go_sem, ↓reduceIte, Nat.reduceEqDiff, Nat.reduceAdd, Nat.reduceMul, Nat.reduceLT, Nat.reduceLeDiff, reduceCtorEq, Int.reduceLT, Int.reduceLE, Int.reduceToNat, Int.reduceAdd, Int.reduceSub, Int.reduceNeg, Nat.reduceSub, Int.reduceEq, Int.reduceNe, Int.reduceGT, Int.reduceGE, e27, e26, e25, e0, e1, e2, Int.lt_irrefl, w1, w2, w3]
  refine (BoxNew_calls h4 (fs.length + 1) (c + 1) (by omega) (by omega)).mono ?_
  rintro _ h5 ⟨p, rfl, hpg, b5, k5⟩
  simp -implicitDefEqProofs only [go_sem, ↓reduceIte, Nat.reduceEqDiff, Nat.reduceAdd, Nat.reduceMul, Nat.reduceLT, Nat.reduceLeDiff, reduceCtorEq, Int.reduceLT, Int.reduceLE, Int.reduceToNat, Int.reduceAdd, Int.reduceSub, Int.reduceNeg, Nat.reduceSub, Int.reduceEq, Int.reduceNe, Int.reduceGT, Int.reduceGE, e0, e1, e2]
  have hpg' : h.size ≤ p := Nat.le_trans k4.size hpg
  refine (Put_calls' (gs := fs) (ws := vs) b5 (fun h' k => hv.keep0 ((k4.trans k5).trans' k (fun x hx => .inr (by simp [blk] at hx; omega)))) hfit (by simp) (by omega)).mono ?_
  rintro _ h6 ⟨q6, vs6, rfl, b6, k6, hq6⟩
  simp -implicitDefEqProofs only [go_sem, ↓reduceIte, Nat.reduceEqDiff, Nat.reduceAdd, Nat.reduceMul, Nat.reduceLT, Nat.reduceLeDiff, reduceCtorEq, Int.reduceLT, Int.reduceLE, Int.reduceToNat, Int.reduceAdd, Int.reduceSub, Int.reduceNeg, Nat.reduceSub, Int.reduceEq, Int.reduceNe, Int.reduceGT, Int.reduceGE, e0, e1, e2, List.reduceReplicate, List.flatten_cons, List.flatten_nil, List.cons_append, List.nil_append, List.append_nil, List.length_set]
  have k7 : Keep h6 (h6.push (Blk 34 [.slice none 0 0, .int .i64 0, .nilIface])) [] := (Keep.refl _ _).push _
  have g7 : (h6.push (Blk 34 [.slice none 0 0, .int .i64 0, .nilIface]))[h6.size]? = some (Blk 34 [.slice none 0 0, .int .i64 0, .nilIface]) := push_new _ _
  have b7 := b6.keep k7 (by simp) (by simp) (by simp) (by simp)
  have kB : Keep h h6 [] := (k4.trans k5).trans' k6 (fun x hx => .inr (by simp [blk] at hx; omega))
  have hq6' : Fresh h q6 := fun x hx => by
    rcases hq6 x hx with h8 | h8
    · simp [blk] at h8
    · exact Nat.le_trans (k4.trans k5).size h8
  generalize h6.push (Blk 34 [.slice none 0 0, .int .i64 0, .nilIface]) = h7 at *
  simp only [List.nil_append] at b7
  have inv0 : Obi h h7 fs p h6.size (fs.length + 1) (c + 1) [] [] fs [] [] q6 (.slice none 0 0) (.slice none 0 0) (.slice none 0 0) vs6 [] :=
    { all := rfl, bytes := rfl, part := by simp, cred := by simp, box := b7, dec := ⟨g7, Bo.nil _ _⟩, gt := Fo.nil _, s1 := by simp [blk], s2 := by simp, s3 := by simp [blk], s4 := by simp [blk], fp := hpg', fd := kB.size, fq := hq6', fo := Fresh.none _ _ _, fv := Fresh.none _ _ _, fg := Fresh.none _ _ _, keep := kB.trans k7 }
  clear b7 g7 b6 b5 k6 k5
  refine loop_dec (fun z e h' => ∃ (G S Q : List Fra) (t out : List Nat) (q o vd got : Value) (vsQ vsG : List Value), z = out.length + (Q.flatMap Fra.bytes).length ∧
      e 9 = .pointer (some ⟨p, 0, none⟩) ∧ e 11 = .pointer (some ⟨h6.size, 0, none⟩) ∧ e 12 = got ∧ e 0 = .slice a fs.length cap ∧ e 2 = .int .u8 pc ∧ Obi h h' fs p h6.size (fs.length + 1) (c + 1) G S Q t out q o vd got vsQ vsG)
    ([].length + (fs.flatMap Fra.bytes).length)
    ⟨[], [], fs, [], [], q6, .slice none 0 0, .slice none 0 0, .slice none 0 0, vs6, [], rfl, rfl, rfl, rfl, e0, e2, inv0⟩ ?_
  clear inv0
  generalize h6.size = d
  rintro z e h8 ⟨G, S, Q, t, out, q, o, vd, got, vsQ, vsG, rfl, e9, e11, e12, e0, e2, I⟩
  have hlen : fs.length = G.length + S.length + Q.length := by rw [I.all]; simp; omega
  simp -implicitDefEqProofs only [go_sem, ↓reduceIte, Nat.reduceEqDiff, Nat.reduceAdd, Nat.reduceMul, Nat.reduceLT, Nat.reduceLeDiff, reduceCtorEq, Int.reduceLT, Int.reduceLE, Int.reduceToNat, Int.reduceAdd, Int.reduceSub, Int.reduceNeg, Nat.reduceSub, Int.reduceEq, Int.reduceNe, Int.reduceGT, Int.reduceGE, e9]
  refine (Waits_calls I.box).mono ?_
  rintro _ h8' ⟨rfl, rfl⟩
  by_cases hend : Q = [] ∧ S = []
  · obtain ⟨rfl, rfl⟩ := hend
    simp -implicitDefEqProofs only [go_sem, ↓reduceIte, Nat.reduceEqDiff, Nat.reduceAdd, Nat.reduceMul, Nat.reduceLT, Nat.reduceLeDiff, reduceCtorEq, Int.reduceLT, Int.reduceLE, Int.reduceToNat, Int.reduceAdd, Int.reduceSub, Int.reduceNeg, Nat.reduceSub, Int.reduceEq, Int.reduceNe, Int.reduceGT, Int.reduceGE, e9]
    refine (Sent_calls I.box).mono ?_
    rintro _ h8'' ⟨rfl, rfl⟩
    have hG : G = fs := by have := I.all; simpa using this.symm
    subst hG
    have hgo := I.gt
    have hke := I.keep
    have hl8 := hv.keep0 hke
    obtain ⟨⟨ag, cg, eg, _, _, hrg⟩, hlg⟩ := hgo.sl.sr
    subst eg
    simp -implicitDefEqProofs only [go_sem, ↓reduceIte, Nat.reduceEqDiff, Nat.reduceAdd, Nat.reduceMul, Nat.reduceLT, Nat.reduceLeDiff, reduceCtorEq, Int.reduceLT, Int.reduceLE, Int.reduceToNat, Int.reduceAdd, Int.reduceSub, Int.reduceNeg, Nat.reduceSub, Int.reduceEq, Int.reduceNe, Int.reduceGT, Int.reduceGE, e9, e11, e12, e0, e2]
    refine loop_dec (fun z e h' => ∃ (i : Nat), z = G.length - i ∧ i ≤ G.length ∧ e 97 = .int .i64 i ∧ e 96 = .int .i64 G.length ∧ e 12 = .slice ag G.length cg ∧ e 0 = .slice a G.length cap ∧ h' = h8'') G.length
      ⟨0, by simp, by omega, rfl, rfl, e12, e0, rfl⟩ ?_
    rintro z e' h9 ⟨i, rfl, hi, e97, e96, e12', e0', rfl⟩
    by_cases hlt : i < G.length
    · have hlt' : (i : Int) < G.length := by omega
      obtain ⟨f, hfi⟩ : ∃ f, G[i]? = some f := ⟨G[i], by simp [hlt]⟩
      obtain ⟨w, hw⟩ : ∃ w, vs[i]? = some w := ⟨vs[i]'(by rw [hv.len]; exact hlt), by simp⟩
      obtain ⟨wg, hwg⟩ : ∃ w, vsG[i]? = some w := ⟨vsG[i]'(by rw [hgo.len]; exact hlt), by simp⟩
      obtain ⟨hbs, htyp⟩ := hl8.body i f w hfi hw
      obtain ⟨hbg, _⟩ := hgo.body i f wg hfi hwg
      obtain ⟨t1, t2⟩ := fcells_get G vs i f w hfi hw
      obtain ⟨t3, t4⟩ := fcells_get G vsG i f wg hfi hwg
      have hc1 := fcells_length G vs hv.len
      have hc2 := fcells_length G vsG hgo.len
      obtain ⟨⟨a', cap', ea, _, _, hra⟩, _⟩ := hl8.sr
      cases ea
      rcases hra with hra | ⟨bl, ol, cl, tl, fl, rfl, hbl, hcl⟩
      · rw [hra] at hc1; simp at hc1; omega
      rcases hrg with hrg | ⟨bg, og, cgs, tg, fg, rfl, hbg', hcg⟩
      · rw [hrg] at hc2; simp at hc2; omega
      have g1 : cl[ol + i * 2]? = some (.int .u8 f.typ) := (hcl (i * 2) (by omega)).trans t1
      have g2 : cl[ol + i * 2 + 1]? = some w := by rw [Nat.add_assoc]; exact (hcl (i * 2 + 1) (by omega)).trans t2
      have g3 : cgs[og + i * 2]? = some (.int .u8 f.typ) := (hcg (i * 2) (by omega)).trans t3
      have g4 : cgs[og + i * 2 + 1]? = some wg := by rw [Nat.add_assoc]; exact (hcg (i * 2 + 1) (by omega)).trans t4
      have wn : IntKind.i64.wrap ((i : Int) + 1) = ((i + 1 : Nat) : Int) := by rw [w_i64 (by omega) (by omega)]; omega
      simp -implicitDefEqProofs only [go_sem, ↓reduceIte, Nat.reduceEqDiff, Nat.reduceAdd, Nat.reduceMul, Nat.reduceLT, Nat.reduceLeDiff, reduceCtorEq, Int.reduceLT, Int.reduceLE, Int.reduceToNat, Int.reduceAdd, Int.reduceSub, Int.reduceNeg, Nat.reduceSub, Int.reduceEq, Int.reduceNe, Int.reduceGT, Int.reduceGE, e97, e96, e12', e0', hlt']
      refine drawH_reads (.read 0 true (.read 1 true (.read 2 true (.read 3 true (.read 4 true (.read 5 true (.read 6 true (.read 7 true (.read 8 true (.read 9 true (.read 10 true (.read 11 true (.read 12 true (.read 13 true (.read 14 true (.read 15 true (.read 16 true (.read 17 true (.read 18 true (.read 19 true (.read 20 true (.read 21 true (.read 22 true (.read 23 true (.read 24 true (.read 25 true .done)))))))))))))))))))))))))) (by kernel_rfl) (by kernel_rfl) ?_
      have q1 : ∀ N : Value → Prop, rQ (fun K x => cvH Tryd.prog 24 9 wg K x) (fun x => x = h9) h9 N = N (.string (strOf f.body)) := fun N => rQ_cvb 24 9 (by kernel_rfl) (e := 5) (by kernel_rfl) (by kernel_rfl) hbg.bs
      have q2 : ∀ N : Value → Prop, rQ (fun K x => cvH Tryd.prog 24 9 w K x) (fun x => x = h9) h9 N = N (.string (strOf f.body)) := fun N => rQ_cvb 24 9 (by kernel_rfl) (e := 5) (by kernel_rfl) (by kernel_rfl) hbs
      simp -implicitDefEqProofs only [go_sem, ↓reduceIte, Nat.reduceEqDiff, Nat.reduceAdd, Nat.reduceMul, Nat.reduceLT, Nat.reduceLeDiff, reduceCtorEq, Int.reduceLT, Int.reduceLE, Int.reduceToNat, Int.reduceAdd, Int.reduceSub, Int.reduceNeg, Nat.reduceSub, Int.reduceEq, Int.reduceNe, Int.reduceGT, Int.reduceGE, e97, e96, e12', e0', hlt', Int.toNat_natCast, forall_eq, hbl, hbg', g1, g2, g3, g4, wn, ↓q1, ↓q2, strEq_refl]
      exact ⟨G.length - (i + 1), by omega, i + 1, rfl, by omega, rfl⟩
    · obtain rfl : i = G.length := by omega
      simp -implicitDefEqProofs only [go_sem, ↓reduceIte, Nat.reduceEqDiff, Nat.reduceAdd, Nat.reduceMul, Nat.reduceLT, Nat.reduceLeDiff, reduceCtorEq, Int.reduceLT, Int.reduceLE, Int.reduceToNat, Int.reduceAdd, Int.reduceSub, Int.reduceNeg, Nat.reduceSub, Int.reduceEq, Int.reduceNe, Int.reduceGT, Int.reduceGE, e97, e96, Int.lt_irrefl, Tryd.results3]
      exact hke
  · have hk : ∃ k, k = min Q.length (c + 1 - S.length) := ⟨_, rfl⟩
    obtain ⟨k, hk⟩ := hk
    obtain ⟨out1, hout⟩ : ∃ o, o = out ++ (Q.take k).flatMap Fra.bytes := ⟨_, rfl⟩
    obtain ⟨n, hn⟩ : ∃ n, n = min (pc + 1) out1.length := ⟨_, rfl⟩
    have hSp : ∀ (f : Fra), f ∈ G ++ S ++ Q → f.fit := fun f hf => hfit f (by rw [I.all]; exact hf)
    obtain ⟨S1, hS1⟩ : ∃ S1, S1 = S ++ Q.take k := ⟨_, rfl⟩
    have hS1l : S1.length = S.length + k := by rw [hS1, List.length_append, List.length_take]; omega
    have hb1 : t ++ out1 = S1.flatMap Fra.bytes := by rw [hout, hS1, List.flatMap_append, ← List.append_assoc, I.bytes]
    have hcr := I.cred
    have hfS1 : ∀ f ∈ S1, f.fit := fun f hf => hSp f (by
      rw [hS1] at hf
      rcases List.mem_append.1 hf with h9 | h9
      · simp [h9]
      · simp [List.mem_of_mem_take h9])
    have hpos : 0 < out1.length := by
      cases hS : S with
      | cons g G' =>
        have h9 := I.part g G' hS
        have := congrArg List.length hb1
        rw [hS1, hS] at this
        simp only [List.length_append, List.cons_append, List.flatMap_cons] at this
        omega
      | nil =>
        cases hQ : Q with
        | nil => exact absurd ⟨hQ, hS⟩ hend
        | cons g Q' =>
          have hk1 : 1 ≤ k := by rw [hk, hQ, hS]; simp
          rw [hout, hQ, show k = (k - 1) + 1 from by omega, List.take_succ_cons, List.flatMap_cons]
          have := bytes_length g
          simp only [List.length_append]
          omega
    have htl : t.length + out1.length ≤ 4111 * 40 := by
      have h9 := bytes_le' S1 hfS1
      have := congrArg List.length hb1
      rw [List.length_append] at this
      have h10 : k ≤ Q.length := by omega
      omega
    have hol : out.length ≤ out1.length := by rw [hout, List.length_append]; omega
    obtain ⟨j, t', hj, hsp1, hsp2, hsp3⟩ := split_frames S1 (t ++ out1.take n) (out1.drop n) (by rw [List.append_assoc, List.take_append_drop]; exact hb1)
    have hmeas : (out1.drop n).length + ((Q.drop k).flatMap Fra.bytes).length < out.length + (Q.flatMap Fra.bytes).length := by
      have h9 : (Q.flatMap Fra.bytes).length = ((Q.take k).flatMap Fra.bytes).length + ((Q.drop k).flatMap Fra.bytes).length := by
        rw [← List.length_append, ← List.flatMap_append, List.take_append_drop]
      have h10 : out1.length = out.length + ((Q.take k).flatMap Fra.bytes).length := by rw [hout, List.length_append]
      rw [List.length_drop]
      omega
    have hQS : ¬ ((Q.length : Int) > 0) → (S.length : Int) > 0 := fun h9 => by
      have h10 : Q = [] := by
        have : Q.length = 0 := by omega
        simpa using this
      have h11 : S ≠ [] := fun h11 => hend ⟨h10, h11⟩
      have := List.length_pos_iff.2 h11
      omega
    have w4 : IntKind.i64.wrap (pc : Int) = (pc : Int) := w_i64 (by omega) (by omega)
    have w5 : IntKind.i64.wrap (1 + (pc : Int)) = ((pc + 1 : Nat) : Int) := by rw [w_i64 (by omega) (by omega)]; omega
    by_cases hq0 : (Q.length : Int) > 0
    all_goals first
      | (have hs0 := hQS hq0
         have hq0' : decide ((Q.length : Int) > 0) = false := decide_eq_false hq0
         simp -implicitDefEqProofs only [go_sem, ↓reduceIte, Nat.reduceEqDiff, Nat.reduceAdd, Nat.reduceMul, Nat.reduceLT, Nat.reduceLeDiff, reduceCtorEq, Int.reduceLT, Int.reduceLE, Int.reduceToNat, Int.reduceAdd, Int.reduceSub, Int.reduceNeg, Nat.reduceSub, Int.reduceEq, Int.reduceNe, Int.reduceGT, Int.reduceGE, e9, hq0']
         refine (Sent_calls I.box).mono ?_
         rintro _ h8' ⟨rfl, rfl⟩
         simp -implicitDefEqProofs only [go_sem, ↓reduceIte, Nat.reduceEqDiff, Nat.reduceAdd, Nat.reduceMul, Nat.reduceLT, Nat.reduceLeDiff, reduceCtorEq, Int.reduceLT, Int.reduceLE, Int.reduceToNat, Int.reduceAdd, Int.reduceSub, Int.reduceNeg, Nat.reduceSub, Int.reduceEq, Int.reduceNe, Int.reduceGT, Int.reduceGE, e9, hs0, hq0', e2, w4, w5])
      | simp -implicitDefEqProofs only [go_sem, ↓reduceIte, Nat.reduceEqDiff, Nat.reduceAdd, Nat.reduceMul, Nat.reduceLT, Nat.reduceLeDiff, reduceCtorEq, Int.reduceLT, Int.reduceLE, Int.reduceToNat, Int.reduceAdd, Int.reduceSub, Int.reduceNeg, Nat.reduceSub, Int.reduceEq, Int.reduceNe, Int.reduceGT, Int.reduceGE, e9, hq0, e2, w4, w5]
    all_goals
      refine (Take_calls I.box (by omega) (by omega) hcr (by omega) (pc + 1) (by omega) hk hout hn).mono ?_
      rintro r1 h9 ⟨q1, o1, hr1, B1, k9, hq1, fo1, fr1, hro1⟩
      have hoff : ∀ {u : Value} {l : List Nat}, Bo 5 h8' u l → (∀ x ∈ blk u, x ∉ blk o) → ∀ x ∈ blk u, x ∉ p :: (blk q ++ blk o) := fun {u} {l} hu hd => Bo.off I.box hu hd
      have hpd : d ≠ p := by
        rintro rfl
        have := I.dec.at_
        rw [I.box.at_] at this
        exact absurd (Blk_inj (Option.some.inj this)) (by decide)
      have hdq : d ∉ p :: (blk q ++ blk o) := by
        simp only [List.mem_cons, List.mem_append, not_or]
        exact ⟨hpd, Sl.nin I.box.que.sl I.dec.at_ (by omega), Sl.nin I.box.out.1 I.dec.at_ (by omega)⟩
      have D9 : Dec h9 d t vd G.length := ⟨k9.get I.dec.at_ hdq, I.dec.bo.keep k9 (hoff I.dec.bo I.s1)⟩
      have G9 : Fo h9 got G vsG := I.gt.keep k9 (fun x hx => by
        simp only [List.mem_cons, List.mem_append, not_or]
        refine ⟨?_, I.s4 x hx, Sl.dj I.gt.sl I.box.out.1 (by omega) x hx⟩
        rintro rfl
        exact Sl.nin I.gt.sl I.box.at_ (by omega) hx) (fun w hw => by
        obtain ⟨l, hl⟩ := I.gt.fr.bo w hw
        exact hoff hl fun x hx => (I.s2 w hw x hx).1)
      have hr1l : (out1.take n).length = n := by rw [List.length_take]; omega
      simp -implicitDefEqProofs only [go_sem, ↓reduceIte, Nat.reduceEqDiff, Nat.reduceAdd, Nat.reduceMul, Nat.reduceLT, Nat.reduceLeDiff, reduceCtorEq, Int.reduceLT, Int.reduceLE, Int.reduceToNat, Int.reduceAdd, Int.reduceSub, Int.reduceNeg, Nat.reduceSub, Int.reduceEq, Int.reduceNe, Int.reduceGT, Int.reduceGE, e9, e11]
      refine (Feed_calls D9 hr1.bs hsp1 (fun f hf => hfS1 f (List.mem_of_mem_take hf)) (fr_nextF (fun f hf => hfS1 f (List.mem_of_mem_drop hf)) hsp2 hsp3) (by rw [List.length_append, hr1l]; omega) (by rw [List.length_take]; omega)).mono ?_
      rintro _ h10 ⟨f2, v2, vs2, rfl, F2, D2, fv2, ff2, fvs2, k10⟩
      obtain ⟨ar, cr, er, _⟩ := hr1.bs.open
      obtain ⟨⟨af, cf, ef, _⟩, _⟩ := F2.sl.sr
      have hjl : (S1.take j).length = j := by rw [List.length_take]; omega
      have er' : r1 = .slice ar n cr := by rw [er, hr1l]
      have ef' : f2 = .slice af j cf := by rw [ef, hjl]
      subst er'
      subst ef'
      have hn0 : ¬ ((n : Int) = 0) := by omega
      have wj : IntKind.u64.wrap (j : Int) = (j : Int) := w_u64 (by omega) (by omega)
      -- the box behind Feed
      have hoffd : ∀ {e n' len : Nat} {u : Value} {l : List Value}, Sl h9 e n' u len l → e ≠ 34 → (∀ x ∈ blk u, x ∉ blk vd) → ∀ x ∈ blk u, x ∉ d :: blk vd := fun hu he hd x hx => by
        simp only [List.mem_cons, not_or]
        refine ⟨?_, hd x hx⟩
        rintro rfl
        exact Sl.nin hu D9.at_ he hx
      have hovd : ∀ x ∈ blk o1, x ∉ blk vd := fun x hx hx' => by
        have h11 := fo1 x hx
        have h12 := Bo.lt I.dec.bo x hx'
        omega
      have B2 := B1.keep k10 (by
        simp only [List.mem_cons, not_or]
        exact ⟨fun h11 => hpd h11.symm, Sl.nin D9.bo.1 B1.at_ (by omega)⟩) (hoffd B1.que.sl (by omega) (Sl.dj B1.que.sl D9.bo.1 (by omega))) (hoffd B1.out.1 (by omega) hovd) (fun w hw => by
        obtain ⟨l, hl⟩ := B1.que.fr.bo w hw
        exact hoffd hl.1 (by omega) fun x hx => I.s3 w (List.mem_of_mem_drop hw) x hx)
      have G10 : Fo h10 got G vsG := G9.keep k10 (hoffd G9.sl (by omega) (Sl.dj G9.sl D9.bo.1 (by omega))) (fun w hw => by
        obtain ⟨l, hl⟩ := G9.fr.bo w hw
        exact hoffd hl.1 (by omega) fun x hx => (I.s2 w hw x hx).2)
      simp -implicitDefEqProofs only [go_sem, ↓reduceIte, Nat.reduceEqDiff, Nat.reduceAdd, Nat.reduceMul, Nat.reduceLT, Nat.reduceLeDiff, reduceCtorEq, Int.reduceLT, Int.reduceLE, Int.reduceToNat, Int.reduceAdd, Int.reduceSub, Int.reduceNeg, Nat.reduceSub, Int.reduceEq, Int.reduceNe, Int.reduceGT, Int.reduceGE, e9, e11, hn0, wj]
      refine (Ack_calls B2 j (by omega) (by omega)).mono ?_
      rintro _ h11 ⟨rfl, B3, k11⟩
      simp -implicitDefEqProofs only [go_sem, ↓reduceIte, Nat.reduceEqDiff, Nat.reduceAdd, Nat.reduceMul, Nat.reduceLT, Nat.reduceLeDiff, reduceCtorEq, Int.reduceLT, Int.reduceLE, Int.reduceToNat, Int.reduceAdd, Int.reduceSub, Int.reduceNeg, Nat.reduceSub, Int.reduceEq, Int.reduceNe, Int.reduceGT, Int.reduceGE, e9, e11, e12, e0, e2, hn0, wj]
      have hoffp : ∀ {e n' len : Nat} {u : Value} {l : List Value}, Sl h10 e n' u len l → e ≠ 135 → ∀ x ∈ blk u, x ∉ [p] := fun hu he x hx => by
        simp only [List.mem_singleton]
        rintro rfl
        exact Sl.nin hu B2.at_ he hx
      have G11 : Fo h11 got G vsG := G10.keep k11 (hoffp G10.sl (by omega)) (fun w hw => by
        obtain ⟨l, hl⟩ := G10.fr.bo w hw
        exact hoffp hl.1 (by omega))
      have F11 : Fo h11 (.slice af j cf) (S1.take j) vs2 := F2.keep k11 (hoffp F2.sl (by omega)) (fun w hw => by
        obtain ⟨l, hl⟩ := F2.fr.bo w hw
        exact hoffp hl.1 (by omega))
      have D11 : Dec h11 d t' v2 (G.length + (S1.take j).length) := ⟨k11.get D2.at_ (by simp; exact hpd), D2.bo.keep k11 (hoffp D2.bo.1 (by omega))⟩
      refine ap_fs G11 F11.fr (by rw [hjl]; omega) ?_
      intro g12 h12 G12 k12 f12
      have hoffg : ∀ {e n' len : Nat} {u : Value} {l : List Value}, Sl h11 e n' u len l → e ≠ 26 → ∀ x ∈ blk u, x ∉ blk got := fun hu he => Sl.dj hu G11.sl he
      have hgq1 : ∀ x ∈ blk q1, x ∉ blk got := fun x hx hx' => I.s4 x hx' (hq1 x hx)
      have B12 := B3.keep k12 (fun hx => Sl.nin G11.sl B3.at_ (by omega) hx) hgq1 (hoffg B3.out.1 (by omega)) (fun w hw => by
        obtain ⟨l, hl⟩ := B3.que.fr.bo w hw
        exact hoffg hl.1 (by omega))
      have D12 : Dec h12 d t' v2 (G.length + (S1.take j).length) := ⟨k12.get D11.at_ (fun hx => Sl.nin G11.sl D11.at_ (by omega) hx), D11.bo.keep k12 (hoffg D11.bo.1 (by omega))⟩
      refine ⟨_, hmeas, G ++ S1.take j, S1.drop j, Q.drop k, t', out1.drop n, q1, o1, v2, g12, vsQ.drop k, vsG ++ vs2, rfl, rfl, ?_⟩
      have sz8 : h8'.size ≤ h9.size := k9.size
      have hsj : S.length + k - j = (S1.drop j).length := by rw [List.length_drop, hS1l]
      exact {
        all := by
          have h1 : S1.take j ++ S1.drop j = S1 := List.take_append_drop _ _
          have h2 : Q.take k ++ Q.drop k = Q := List.take_append_drop _ _
          have h3 : G ++ S1.take j ++ S1.drop j ++ Q.drop k = G ++ (S ++ Q) := by
            rw [List.append_assoc G, h1, hS1, List.append_assoc G, List.append_assoc S, h2]
          rw [h3, I.all, List.append_assoc]
        bytes := hsp2
        part := hsp3
        cred := by rw [List.length_drop, hS1l]; omega
        box := by rw [← hsj]; exact B12
        dec := by rw [List.length_append]; exact D12
        gt := G12
        s1 := fun x hx hx' => by
          have h1 := fv2 x hx
          have h2 := Bo.lt B1.out x hx'
          omega
        s2 := fun w hw x hx => by
          rcases List.mem_append.1 hw with h1 | h1
          · obtain ⟨l, hl⟩ := I.gt.fr.bo w h1
            have h2 := Bo.lt hl x hx
            refine ⟨fun hx' => ?_, fun hx' => ?_⟩
            · have := fo1 x hx'; omega
            · have := fv2 x hx'; omega
          · refine ⟨fun hx' => ?_, (fvs2 w h1).2 x hx⟩
            have h2 := (fvs2 w h1).1 x hx
            have h3 := Bo.lt B1.out x hx'
            omega
        s3 := fun w hw x hx hx' => by
          obtain ⟨l, hl⟩ := I.box.que.fr.bo w (List.mem_of_mem_drop hw)
          have h2 := Bo.lt hl x hx
          have := fv2 x hx'; omega
        s4 := fun x hx hx' => by
          rcases f12 x hx with h1 | h1
          · exact I.s4 x h1 (hq1 x hx')
          · have h2 := Sl.lt B3.que.sl x hx'
            omega
        fp := I.fp
        fd := I.fd
        fq := fun x hx => I.fq x (hq1 x hx)
        fo := fun x hx => Nat.le_trans I.keep.size (fo1 x hx)
        fv := fun x hx => Nat.le_trans (Nat.le_trans I.keep.size sz8) (fv2 x hx)
        fg := fun x hx => by
          rcases f12 x hx with h1 | h1
          · exact I.fg x h1
          · exact Nat.le_trans (Nat.le_trans I.keep.size (Nat.le_trans sz8 (Nat.le_trans k10.size k11.size))) h1
        keep := by
          have ka := I.keep.trans' k9 (fun x hx => .inr (by
            simp only [List.mem_cons, List.mem_append] at hx
            rcases hx with rfl | h1 | h1
            · exact I.fp
            · exact I.fq x h1
            · exact I.fo x h1))
          have kb := ka.trans' k10 (fun x hx => .inr (by
            simp only [List.mem_cons] at hx
            rcases hx with rfl | h1
            · exact I.fd
            · exact I.fv x h1))
          have kc := kb.trans' k11 (fun x hx => .inr (by simp at hx; subst hx; exact I.fp))
          exact kc.trans' k12 (fun x hx => .inr (I.fg x hx)) }
end Go.Proofs.Tryd
