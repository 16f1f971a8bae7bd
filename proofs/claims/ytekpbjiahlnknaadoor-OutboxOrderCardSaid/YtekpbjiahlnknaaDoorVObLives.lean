/- The chapter's example of a box. Its conditions: none. -/
import Derived.Test.YtekpbjiahlnknaaDoorVBox2
import Derived.Test.YtekpbjiahlnknaaDoorVDec
namespace Go.Proofs.Tryd
open Go.H
set_option maxRecDepth 100000
set_option maxHeartbeats 4000000
set_option linter.unusedSimpArgs false
set_option linter.unusedVariables false

theorem Box.keep {h h' : Heap} {p most credit sent : Nat} {q o : Value} {fs : List Fra} {vs : List Value} {out : List Nat} {fp : List Nat} (b : Box h p most credit q fs vs sent o out) (k : Keep h h' fp)
    (hp : p ∉ fp) (hq : ∀ x ∈ blk q, x ∉ fp) (ho : ∀ x ∈ blk o, x ∉ fp) (hv : ∀ w ∈ vs, ∀ x ∈ blk w, x ∉ fp) : Box h' p most credit q fs vs sent o out :=
  ⟨k.get b.at_ hp, b.que.keep k hq hv, b.out.keep k ho, b.sep⟩
/-- What a box's calls write: its own block, its row of frames, its bytes. -/
theorem Bo.off {h : Heap} {p most credit sent : Nat} {q o : Value} {fs : List Fra} {vs : List Value} {out : List Nat} (b : Box h p most credit q fs vs sent o out) {r : Value} {l : List Nat} (hr : Bo 5 h r l) (hd : ∀ x ∈ blk r, x ∉ blk o) :
    ∀ x ∈ blk r, x ∉ p :: (blk q ++ blk o) := by
  intro x hx
  simp only [List.mem_cons, List.mem_append, not_or]
  refine ⟨?_, Sl.dj hr.1 b.que.sl (by omega) x hx, hd x hx⟩
  rintro rfl
  exact Sl.nin hr.1 b.at_ (by omega) hx
theorem oblives_calls (h : Heap) : CallsH Tryd.prog 11 #[] h (fun r h' => r = .bool true ∧ Keep h h' []) := by
  have hf1 : (⟨1, []⟩ : Fra).fit := ⟨by decide, by simp, by simp⟩
  have hf2 : (⟨2, []⟩ : Fra).fit := ⟨by decide, by simp, by simp⟩
  have hs0 : sizeF 0 = 1 := by decide
  have hl1 : (⟨1, []⟩ : Fra).bytes.length = 7 := by rw [bytes_length]; simp [hs0]
  have hl2 : (⟨2, []⟩ : Fra).bytes.length = 7 := by rw [bytes_length]; simp [hs0]
  refine CallsH.of_code (args := []) Tryd.func11 rfl (by kernel_rfl) ?_
  simp -implicitDefEqProofs only [go_sem, ↓reduceIte, Nat.reduceEqDiff, Nat.reduceAdd, Nat.reduceMul, Nat.reduceLT, Nat.reduceLeDiff, reduceCtorEq, Int.reduceLT, Int.reduceLE, Int.reduceToNat, Int.reduceAdd, Int.reduceSub, Int.reduceNeg, Nat.reduceSub, Int.reduceEq, Int.reduceNe, Int.reduceGT, Int.reduceGE]
  refine (BoxNew_calls h 5 1 (by omega) (by omega)).mono ?_
  rintro _ h1 ⟨p, rfl, hpg, b1, k1⟩
  simp -implicitDefEqProofs only [go_sem, ↓reduceIte, Nat.reduceEqDiff, Nat.reduceAdd, Nat.reduceMul, Nat.reduceLT, Nat.reduceLeDiff, reduceCtorEq, Int.reduceLT, Int.reduceLE, Int.reduceToNat, Int.reduceAdd, Int.reduceSub, Int.reduceNeg, Nat.reduceSub, Int.reduceEq, Int.reduceNe, Int.reduceGT, Int.reduceGE, List.reduceReplicate, List.flatten_cons, List.flatten_nil, List.cons_append, List.nil_append, List.append_nil, List.length_set]
  have k2 : Keep h1 (h1.push (Blk 26 [.int .u8 1, .slice none 0 0, .int .u8 2, .slice none 0 0])) [] := (Keep.refl _ _).push _
  have g2 : (h1.push (Blk 26 [.int .u8 1, .slice none 0 0, .int .u8 2, .slice none 0 0]))[h1.size]? = some (Blk 26 [.int .u8 1, .slice none 0 0, .int .u8 2, .slice none 0 0]) := push_new _ _
  have hp1 : p < h1.size := lt_of_some b1.at_
  have b2 := b1.keep k2 (by simp) (by simp) (by simp) (by simp)
  generalize h1.push (Blk 26 [.int .u8 1, .slice none 0 0, .int .u8 2, .slice none 0 0]) = h2 at *
  refine (Put_calls' (l := .slice (some ⟨h1.size, 0, none⟩) 2 2) (gs := [⟨1, []⟩, ⟨2, []⟩]) (ws := [.slice none 0 0, .slice none 0 0]) b2 ?_ ?_ (by simp) (by omega)).mono ?_
  · intro h' k
    have g := k.get g2 (by simp [blk]; omega)
    refine ⟨⟨⟨some ⟨h1.size, 0, none⟩, 2, rfl, Nat.le_refl _, by simp, .inr ⟨h1.size, 0, [Value.int IntKind.u8 1, .slice none 0 0, .int .u8 2, .slice none 0 0].toArray, 26, (0, 0), rfl, g, fun i hi => by rw [Nat.zero_add, List.getElem?_toArray]; rfl⟩⟩, rfl⟩, rfl, ?_⟩
    intro i f w h1 h2
    match i, h1, h2 with
    | 0, h1, h2 => simp at h1 h2; subst h1; subst h2; exact ⟨(Bo.nil 5 _).bs, by decide⟩
    | 1, h1, h2 => simp at h1 h2; subst h1; subst h2; exact ⟨(Bo.nil 5 _).bs, by decide⟩
    | i + 2, h1, h2 => simp at h1
  · intro f hf
    simp at hf
    rcases hf with rfl | rfl
    · exact hf1
    · exact hf2
  rintro _ h3 ⟨q3, vs3, rfl, b3, k3, hq3⟩
  simp only [List.nil_append] at b3
  have hlv3 : vs3.length = 2 := b3.que.len
  simp -implicitDefEqProofs only [go_sem, ↓reduceIte, Nat.reduceEqDiff, Nat.reduceAdd, Nat.reduceMul, Nat.reduceLT, Nat.reduceLeDiff, reduceCtorEq, Int.reduceLT, Int.reduceLE, Int.reduceToNat, Int.reduceAdd, Int.reduceSub, Int.reduceNeg, Nat.reduceSub, Int.reduceEq, Int.reduceNe, Int.reduceGT, Int.reduceGE]
  refine (Take_calls b3 (by simp) (by omega) (by omega) (by simp) 99 (by omega) (k := 1) rfl (out1 := (⟨1, []⟩ : Fra).bytes) (by simp) (n := 7) (by rw [hl1]; rfl)).mono ?_
  rintro r4 h4 ⟨q4, o4, hr4, b4, k4, hq4, ho4, hr4f, hr4o⟩
  simp only [List.drop_succ_cons, List.drop_zero, Nat.zero_add] at b4
  rw [← hl1, List.take_length] at hr4
  rw [← hl1, List.drop_length] at b4
  simp -implicitDefEqProofs only [go_sem, ↓reduceIte, Nat.reduceEqDiff, Nat.reduceAdd, Nat.reduceMul, Nat.reduceLT, Nat.reduceLeDiff, reduceCtorEq, Int.reduceLT, Int.reduceLE, Int.reduceToNat, Int.reduceAdd, Int.reduceSub, Int.reduceNeg, Nat.reduceSub, Int.reduceEq, Int.reduceNe, Int.reduceGT, Int.reduceGE]
  refine (Take_calls b4 (by simp) (by omega) (by omega) (by simp) 99 (by omega) (k := 0) rfl (out1 := []) (by simp) (n := 0) rfl).mono ?_
  rintro r5 h5 ⟨q5, o5, hr5, b5, k5, hq5, ho5, hr5f, hr5o⟩
  have hr45 := hr4.keep k5 (Bo.off b4 hr4 hr4o)
  simp -implicitDefEqProofs only [go_sem, ↓reduceIte, Nat.reduceEqDiff, Nat.reduceAdd, Nat.reduceMul, Nat.reduceLT, Nat.reduceLeDiff, reduceCtorEq, Int.reduceLT, Int.reduceLE, Int.reduceToNat, Int.reduceAdd, Int.reduceSub, Int.reduceNeg, Nat.reduceSub, Int.reduceEq, Int.reduceNe, Int.reduceGT, Int.reduceGE]
  refine (Ack_calls b5 1 (by omega) (by omega)).mono ?_
  rintro _ h6 ⟨rfl, b6, k6⟩
  simp -implicitDefEqProofs only [go_sem, ↓reduceIte, Nat.reduceEqDiff, Nat.reduceAdd, Nat.reduceMul, Nat.reduceLT, Nat.reduceLeDiff, reduceCtorEq, Int.reduceLT, Int.reduceLE, Int.reduceToNat, Int.reduceAdd, Int.reduceSub, Int.reduceNeg, Nat.reduceSub, Int.reduceEq, Int.reduceNe, Int.reduceGT, Int.reduceGE]
  simp only [List.drop_zero, Nat.add_zero, Nat.sub_self] at b6
  have hp5 : p ∉ blk r4 := fun hx => Sl.nin hr45.1 b5.at_ (by omega) hx
  have hr46 := hr45.keep k6 (fun x hx => by simp; rintro rfl; exact hp5 hx)
  refine (Take_calls b6 (by simp) (by omega) (by omega) (by simp) 99 (by omega) (k := 1) rfl (out1 := (⟨2, []⟩ : Fra).bytes) (by simp) (n := 7) (by rw [hl2]; rfl)).mono ?_
  rintro r7 h7 ⟨q7, o7, hr7, b7, k7, hq7, ho7, hr7f, hr7o⟩
  have hd6 : ∀ x ∈ blk r4, x ∉ blk o5 := fun x hx hx' => by
    have h8 := Bo.lt hr4 x hx
    have h9 := ho5 x hx'
    omega
  have hr47 := hr46.keep k7 (Bo.off b6 hr46 hd6)
  rw [← hl2, List.take_length] at hr7
  obtain ⟨a4, c4, e4, hc4, _, hx4⟩ := hr47.bs.open
  obtain ⟨a7, c7, e7, hc7, _, hx7⟩ := hr7.bs.open
  obtain ⟨a5, c5, e5, hc5, _, _⟩ := hr5.bs.open
  rcases hx4 with hx4 | ⟨b4', o4', cs4, t4, f4, e4', hb4, hcs4⟩
  · rw [hx4] at hl1; simp at hl1
  rcases hx7 with hx7 | ⟨b7', o7', cs7, t7, f7, e7', hb7, hcs7⟩
  · rw [hx7] at hl2; simp at hl2
  have g4 := hcs4 1 (by omega)
  have g7 := hcs7 1 (by omega)
  rw [hl1, e4'] at e4
  rw [hl2, e7'] at e7
  have e41 : (⟨1, []⟩ : Fra).bytes.getD 1 0 = 1 := rfl
  have e71 : (⟨2, []⟩ : Fra).bytes.getD 1 0 = 2 := rfl
  rw [e41] at g4
  rw [e71] at g7
  subst e4
  subst e7
  subst e5
  simp -implicitDefEqProofs only [go_sem, ↓reduceIte, Nat.reduceEqDiff, Nat.reduceAdd, Nat.reduceMul, Nat.reduceLT, Nat.reduceLeDiff, reduceCtorEq, Int.reduceLT, Int.reduceLE, Int.reduceToNat, Int.reduceAdd, Int.reduceSub, Int.reduceNeg, Nat.reduceSub, Int.reduceEq, Int.reduceNe, Int.reduceGT, Int.reduceGE, hb4, hb7, g4, g7, List.take_zero, Int.reduceToNat, Tryd.results11]
  have s12 : h.size ≤ h2.size := (k1.trans k2).size
  have hq3' : ∀ x ∈ blk q3, h.size ≤ x := fun x hx => by
    rcases hq3 x hx with h8 | h8
    · simp [blk] at h8
    · omega
  have kA : Keep h h3 [] := (k1.trans k2).trans' k3 (fun x hx => .inr (by simp [blk] at hx; omega))
  have kB : Keep h h4 [] := kA.trans' k4 (fun x hx => .inr (by
    simp only [List.mem_cons, List.mem_append] at hx
    rcases hx with rfl | h8 | h8
    · exact hpg
    · exact hq3' x h8
    · simp [blk] at h8))
  have kC : Keep h h5 [] := kB.trans' k5 (fun x hx => .inr (by
    simp only [List.mem_cons, List.mem_append] at hx
    rcases hx with rfl | h8 | h8
    · exact hpg
    · exact hq3' x (hq4 x h8)
    · exact Nat.le_trans kA.size (ho4 x h8)))
  have kD : Keep h h6 [] := kC.trans' k6 (fun x hx => .inr (by simp at hx; omega))
  exact kD.trans' k7 (fun x hx => .inr (by
    simp only [List.mem_cons, List.mem_append] at hx
    rcases hx with rfl | h8 | h8
    · exact hpg
    · exact hq3' x (hq4 x (hq5 x h8))
    · exact Nat.le_trans kB.size (ho5 x h8)))
end Go.Proofs.Tryd
