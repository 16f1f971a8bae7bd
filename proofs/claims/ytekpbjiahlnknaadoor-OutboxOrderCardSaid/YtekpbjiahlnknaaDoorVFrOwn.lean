/- Rows of frames of the code's own: append, Delete. Its conditions: no more than 2^20 frames. -/
import Derived.Test.YtekpbjiahlnknaaDoorVNext
namespace Go.Proofs.Tryd
open Go.H
set_option maxRecDepth 100000
set_option maxHeartbeats 4000000
set_option linter.unusedSimpArgs false
set_option linter.unusedVariables false

theorem fcells_append : ∀ (fs : List Fra) (vs : List Value) (gs : List Fra) (ws : List Value), vs.length = fs.length → fcells (fs ++ gs) (vs ++ ws) = fcells fs vs ++ fcells gs ws
  | [], [], gs, ws, _ => rfl
  | [], v :: vs, gs, ws, h => by simp at h
  | f :: fs, [], gs, ws, h => by simp at h
  | f :: fs, v :: vs, gs, ws, h => by
    have := fcells_append fs vs gs ws (by simpa using h)
    simp [fcells, this]
/-- A row of frames that is read; the bodies are the code's own. -/
structure Fr (h : Heap) (v : Value) (fs : List Fra) (vs : List Value) : Prop where
  sr : SR h 2 v fs.length (fcells fs vs)
  len : vs.length = fs.length
  body : ∀ (i : Nat) f w, fs[i]? = some f → vs[i]? = some w → Bo 5 h w f.body ∧ f.fit
/-- A row of frames of the code's own. -/
structure Fo (h : Heap) (v : Value) (fs : List Fra) (vs : List Value) : Prop where
  sl : Sl h 26 2 v fs.length (fcells fs vs)
  len : vs.length = fs.length
  body : ∀ (i : Nat) f w, fs[i]? = some f → vs[i]? = some w → Bo 5 h w f.body ∧ f.fit
section
variable {h h' : Heap} {v : Value} {fs : List Fra} {vs : List Value}
theorem Fo.nil (h : Heap) : Fo h (.slice none 0 0) [] [] := ⟨Sl.nil h 26 2, rfl, by simp⟩
theorem Fo.fr (o : Fo h v fs vs) : Fr h v fs vs := ⟨o.sl.sr, o.len, o.body⟩
theorem Fr.rd (o : Fr h v fs vs) : Fs h v fs vs := ⟨o.sr, o.len, fun i f w h1 h2 => ⟨(o.body i f w h1 h2).1.bs, (o.body i f w h1 h2).2.typ⟩⟩
theorem Fr.fit (o : Fr h v fs vs) : ∀ f ∈ fs, f.fit := by
  intro f hf
  obtain ⟨i, hi⟩ := List.getElem?_of_mem hf
  have hlt := (List.getElem?_eq_some_iff.1 hi).1
  exact (o.body i f _ hi (List.getElem?_eq_getElem (by rw [o.len]; exact hlt))).2
theorem Fr.bo (o : Fr h v fs vs) : ∀ w ∈ vs, ∃ l, Bo 5 h w l := by
  intro w hw
  obtain ⟨i, hi⟩ := List.getElem?_of_mem hw
  have hlt := (List.getElem?_eq_some_iff.1 hi).1
  exact ⟨_, (o.body i _ w (List.getElem?_eq_getElem (by rw [← o.len]; exact hlt)) hi).1⟩
theorem Bo.lt {w : Value} {l : List Nat} (b : Bo 5 h w l) : ∀ x ∈ blk w, x < h.size := by
  intro x hx
  rcases b.1.ex with ⟨rfl, _⟩ | ⟨q, o, cap, cells, rfl, hq, _⟩
  · simp [blk] at hx
  · simp [blk] at hx; subst hx; exact lt_of_some hq
theorem Sl.lt {e n len : Nat} {w : Value} {l : List Value} (b : Sl h e n w len l) : ∀ x ∈ blk w, x < h.size := by
  intro x hx
  rcases b.ex with ⟨rfl, _⟩ | ⟨q, o, cap, cells, rfl, hq, _⟩
  · simp [blk] at hx
  · simp [blk] at hx; subst hx; exact lt_of_some hq
/-- The blocks of rows of two types are two. -/
theorem Sl.dj {e e' n n' m m' : Nat} {u w : Value} {l l' : List Value} (a : Sl h e n u m l) (b : Sl h e' n' w m' l') (hne : e ≠ e') : ∀ x ∈ blk u, x ∉ blk w := by
  intro x hx hy
  rcases a.ex with ⟨rfl, _⟩ | ⟨q, o, cap, cells, rfl, hq, _⟩
  · simp [blk] at hx
  rcases b.ex with ⟨rfl, _⟩ | ⟨q', o', cap', cells', rfl, hq', _⟩
  · simp [blk] at hy
  simp [blk] at hx hy
  subst hx
  subst hy
  rw [hq] at hq'
  exact hne (Blk_inj (Option.some.inj hq'))
theorem Sl.nin {e n m : Nat} {u : Value} {l : List Value} (a : Sl h e n u m l) {p : Nat} {t : TypeId} {c : List Value} (hp : h[p]? = some (Blk t c)) (hne : e ≠ t) : p ∉ blk u := by
  intro hx
  rcases a.ex with ⟨rfl, _⟩ | ⟨q, o, cap, cells, rfl, hq, _⟩
  · simp [blk] at hx
  simp [blk] at hx
  subst hx
  rw [hq] at hp
  exact hne (Blk_inj (Option.some.inj hp))
theorem Fo.keep {fp : List Nat} (o : Fo h v fs vs) (k : Keep h h' fp) (hv : ∀ x ∈ blk v, x ∉ fp) (hb : ∀ w ∈ vs, ∀ x ∈ blk w, x ∉ fp) : Fo h' v fs vs :=
  ⟨o.sl.keep k hv, o.len, fun i f w h1 h2 => ⟨(o.body i f w h1 h2).1.keep k (hb w (List.mem_of_getElem? h2)), (o.body i f w h1 h2).2⟩⟩
theorem Fr.keep {fp : List Nat} (o : Fr h v fs vs) (k : Keep h h' fp) (hv : ∀ x ∈ blk v, x ∉ fp) (hb : ∀ w ∈ vs, ∀ x ∈ blk w, x ∉ fp) : Fr h' v fs vs :=
  ⟨o.sr.keep k hv, o.len, fun i f w h1 h2 => ⟨(o.body i f w h1 h2).1.keep k (hb w (List.mem_of_getElem? h2)), (o.body i f w h1 h2).2⟩⟩
theorem Fr.block {b : Nat} {f : Fra} {w : Value} (hb : h[b]? = some (Blk 26 [u8 f.typ, w])) (hw : Bo 5 h w f.body) (hf : f.fit) : Fr h (.slice (some ⟨b, 0, none⟩) 1 1) [f] [w] := by
  refine ⟨⟨⟨some ⟨b, 0, none⟩, 1, rfl, Nat.le_refl _, by simp, .inr ⟨b, 0, [u8 f.typ, w].toArray, 26, (0, 0), rfl, hb, fun i hi => by rw [Nat.zero_add, List.getElem?_toArray]; rfl⟩⟩, rfl⟩, rfl, ?_⟩
  intro i g u h1 h2
  cases i with
  | zero => simp at h1 h2; subst h1; subst h2; exact ⟨hw, hf⟩
  | succ i => simp at h1
theorem bo_plain {w : Value} {l : List Nat} (b : Bo 5 h w l) : plainV w = true := by
  rcases b.1.ex with ⟨rfl, _⟩ | ⟨q, o, cap, cells, rfl, hq, _⟩ <;> rfl
theorem Sl.cells {e n len : Nat} {w : Value} {l : List Value} (b : Sl h e n w len l) : w.cells = #[w] := by
  rcases b.ex with ⟨rfl, _⟩ | ⟨q, o, cap, cells, rfl, hq, _⟩ <;> rfl
theorem Sl.plain {e n len : Nat} {w : Value} {l : List Value} (b : Sl h e n w len l) : plainV w = true := by
  rcases b.ex with ⟨rfl, _⟩ | ⟨q, o, cap, cells, rfl, hq, _⟩ <;> rfl
theorem fcells_plain : ∀ (fs : List Fra) (vs : List Value), (∀ w ∈ vs, plainV w = true) → (fcells fs vs).all plainV = true
  | f :: fs, v :: vs, h => by
    have := fcells_plain fs vs (fun w hw => h w (by simp [hw]))
    simp [fcells, u8, plainV, h v (by simp), this]
    exact h v (by simp)
  | [], vs, _ => by cases vs <;> rfl
  | f :: fs, [], _ => rfl

theorem ap_fs {K : Value → Heap → Prop} {x : Value} {gs : List Fra} {ws : List Value} (s : Fo h v fs vs) (hx : Fr h x gs ws) (hn : fs.length + gs.length ≤ 4194304)
    (hk : ∀ v' h', Fo h' v' (fs ++ gs) (vs ++ ws) → Keep h h' (blk v) → (∀ b ∈ blk v', b ∈ blk v ∨ h.size ≤ b) → K v' h') : apH Tryd.prog 22 22 v x K h := by
  refine Sl.ap (e := 26) (n := 2) (z := .agg #[.int .u8 0, .slice none 0 0]) (by_ := 32) (by kernel_rfl) (by kernel_rfl) (by kernel_rfl) rfl (by omega) (by kernel_rfl) s.sl hx.sr.lenV hx.sr.src hx.sr.len (fcells_plain _ _ fun w hw => by obtain ⟨l, hl⟩ := hx.bo w hw; exact bo_plain hl) (by kernel_rfl) (by omega) (by omega) ?_
  intro v' h' hs k hb'
  have hdj : ∀ {w : Value} {l : List Nat}, Bo 5 h w l → Bo 5 h' w l := fun {w} {l} b => b.keep k (Sl.dj b.1 s.sl (by omega))
  refine hk v' h' ⟨?_, by rw [List.length_append, List.length_append, s.len, hx.len], ?_⟩ k hb'
  · rw [List.length_append, fcells_append _ _ _ _ s.len]; exact hs
  · intro i f w h1 h2
    by_cases hi : i < fs.length
    · rw [List.getElem?_append_left hi] at h1
      rw [List.getElem?_append_left (by rw [s.len]; exact hi)] at h2
      exact ⟨hdj (s.body i f w h1 h2).1, (s.body i f w h1 h2).2⟩
    · rw [List.getElem?_append_right (by omega)] at h1
      rw [List.getElem?_append_right (by rw [s.len]; omega), s.len] at h2
      exact ⟨hdj (hx.body _ f w h1 h2).1, (hx.body _ f w h1 h2).2⟩

theorem Delete_calls {f : Fra} {w : Value} (s : Fo h v (f :: fs) (w :: vs)) (hn : fs.length ≤ 1048576) : CallsH Tryd.prog 114 #[v, .int .i64 0, .int .i64 1] h (fun r h' =>
    Fo h' r fs vs ∧ Keep h h' (blk v) ∧ (∀ b ∈ blk r, b ∈ blk v)) := by
  rcases s.sl.ex with ⟨_, h0⟩ | ⟨b, o, cap, cells, rfl, hb, hcap, hlc, hi⟩
  · simp at h0
  have hlen : vs.length = fs.length := by have := s.len; simpa using this
  have hfl : (fcells fs vs).length = fs.length * 2 := fcells_length fs vs hlen
  simp only [List.length_cons] at hlc
  have hle1 : (1 : Int) ≤ ((fs.length + 1 : Nat) : Int) := by omega
  have hle2 : ((fs.length + 1 : Nat) : Int) ≤ (cap : Int) := by omega
  have hle3 : (0 : Int) ≤ (cap : Int) := by omega
  refine CallsH.of_code (args := [_, _, _]) Tryd.func114 rfl (by kernel_rfl) ?_
  simp -implicitDefEqProofs only [go_sem, ↓reduceIte, Nat.reduceEqDiff, Nat.reduceAdd, Nat.reduceMul, Nat.reduceLT, Nat.reduceLeDiff, reduceCtorEq, Int.reduceLT, Int.reduceLE, Int.reduceToNat, Int.reduceAdd, Int.reduceSub, Int.reduceNeg, Nat.reduceSub, Int.reduceEq, Int.reduceNe, Int.reduceGT, Int.reduceGE, hle1, hle2, hle3, Int.toNat_natCast]
  refine drawH_reads (.read 0 false (.read 1 false (.read 2 false (.read 3 false (.read 4 false (.read 5 false (.act 6 true (.read 7 false .done)))))))) (by kernel_rfl) (by kernel_rfl) ?_
  have hcut := s.sl.sr.cut (lo := 1) (hi := fs.length + 1) (mx := cap) (by omega) (Nat.le_refl _) hlc (Nat.le_refl _)
  have hcd : List.take ((fs.length + 1 - 1) * 2) (List.drop (1 * 2) (fcells (f :: fs) (w :: vs))) = fcells fs vs := by
    rw [show (1 * 2) = 2 from rfl, Nat.add_sub_cancel]
    show List.take (fs.length * 2) (fcells fs vs) = _
    rw [← hfl, List.take_length]
  rw [hcd] at hcut
  simp only [Option.map_some, Nat.one_mul, add_none, Nat.add_sub_cancel] at hcut
  have hplain : (fcells fs vs).all plainV = true := fcells_plain _ _ fun w' hw' => by
    obtain ⟨l, hl⟩ := s.fr.bo w' (by simp [hw'])
    exact bo_plain hl
  have hcs : o + (fs.length + 1) * 2 ≤ cells.length := by omega
  simp -implicitDefEqProofs only [go_sem, ↓reduceIte, Nat.reduceEqDiff, Nat.reduceAdd, Nat.reduceMul, Nat.reduceLT, Nat.reduceLeDiff, reduceCtorEq, Int.reduceLT, Int.reduceLE, Int.reduceToNat, Int.reduceAdd, Int.reduceSub, Int.reduceNeg, Nat.reduceSub, Int.reduceEq, Int.reduceNe, Int.reduceGT, Int.reduceGE, hle1, hle2, hle3, Int.toNat_natCast, ite_self, Nat.sub_zero, Nat.add_sub_cancel]
  refine ap_fit (e := 26) (n := 2) (z := .agg #[.int .u8 0, .slice none 0 0]) (by_ := 32) (by kernel_rfl) (by kernel_rfl) (by kernel_rfl) rfl (by omega) (by kernel_rfl) hb hcap (m := fs.length) (by omega) hcut.lenV hcut.src hfl hplain (by kernel_rfl) (by omega) (by omega) ?_
  have hc1 : ((fs.length : Nat) : Int) ≤ ((fs.length + 1 : Nat) : Int) := by omega
  have hc2 : ¬ cap = fs.length := by omega
  simp -implicitDefEqProofs only [go_sem, ↓reduceIte, Nat.reduceEqDiff, Nat.reduceAdd, Nat.reduceMul, Nat.reduceLT, Nat.reduceLeDiff, reduceCtorEq, Int.reduceLT, Int.reduceLE, Int.reduceToNat, Int.reduceAdd, Int.reduceSub, Int.reduceNeg, Nat.reduceSub, Int.reduceEq, Int.reduceNe, Int.reduceGT, Int.reduceGE, Nat.zero_add, Int.toNat_natCast, hle2, hc1, hc2, Nat.add_sub_cancel_left]
  have hb1 : (hput h b (o + 0) (fcells fs vs))[b]? = some (Blk 26 (putL cells o (fcells fs vs))) := by rw [hput_same, hb]; rfl
  refine cl_own (e := 26) (z := .agg #[.int .u8 0, .slice none 0 0]) (by kernel_rfl) (by kernel_rfl) (by simp [Value.cells]) (by rfl) hb1 (by rw [putL_length]; simp only [cells_agg]; show o + fs.length * 2 + 1 * 2 ≤ _; omega) ?_
  simp -implicitDefEqProofs only [go_sem, ↓reduceIte, Nat.reduceEqDiff, Nat.reduceAdd, Nat.reduceMul, Nat.reduceLT, Nat.reduceLeDiff, reduceCtorEq, Int.reduceLT, Int.reduceLE, Int.reduceToNat, Int.reduceAdd, Int.reduceSub, Int.reduceNeg, Nat.reduceSub, Int.reduceEq, Int.reduceNe, Int.reduceGT, Int.reduceGE, Nat.zero_add, Tryd.results114]
  have k1 : Keep h (hput (hput h b o (fcells fs vs)) b (o + fs.length * 2) (List.replicate 1 [Value.int IntKind.u8 0, Value.slice none 0 0]).flatten) [b] :=
    ((Keep.refl _ _).hput (.inl (by simp)) _ _).hput (.inl (by simp)) _ _
  have hdj : ∀ {u : Value} {l : List Nat}, Bo 5 h u l → ∀ x ∈ blk u, x ∉ [b] := fun {u} {l} q x hx => by
    have := Sl.dj q.1 s.sl (by omega) x hx
    simpa [blk] using this
  refine ⟨⟨⟨.inr ⟨b, o, cap, putL (putL cells o (fcells fs vs)) (o + fs.length * 2) [Value.int IntKind.u8 0, Value.slice none 0 0], rfl, ?_, ?_, by omega, ?_⟩, by rw [hfl]⟩, hlen, ?_⟩, k1, fun x hx => hx⟩
  · rw [hput_same, hput_same, hb]; rfl
  · rw [putL_length, putL_length]; exact hcap
  · intro i hi0
    rw [putL_get _ _ _ _ (by rw [putL_length]; show _ + 2 ≤ _; omega), if_neg (by rw [hfl] at hi0; omega), putL_get _ _ _ _ (by omega), if_pos (by omega), Nat.add_sub_cancel_left]
  · intro i g u h1 h2
    have := s.body (i + 1) g u (by simpa using h1) (by simpa using h2)
    exact ⟨this.1.keep k1 (hdj this.1), this.2⟩
end
end Go.Proofs.Tryd
