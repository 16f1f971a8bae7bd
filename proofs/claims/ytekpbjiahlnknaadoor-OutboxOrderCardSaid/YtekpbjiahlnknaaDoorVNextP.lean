/- Frames in bytes: the first one, whole or not. Its conditions: each frame's body has at most 4096 bytes. -/
import Derived.Test.YtekpbjiahlnknaaDoorVFrame
namespace Go.Proofs.Tryd
open Go.H
set_option maxRecDepth 100000
set_option linter.unusedSimpArgs false
set_option linter.unusedVariables false

/-- What the next frame is: bytes that are no frame have no answer here. -/
def nextF (l : List Nat) : Option (Option (Fra × Nat)) :=
  if 0 < l.length ∧ l.getD 0 0 ≠ 181 then none else
  if l.length < 3 then some none else
  if 192 ≤ l.getD 2 0 then none else
  let u := uptoF (l.drop 2) 0 4096
  if u.2.2 = 2 then some none else
  if u.2.2 ≠ 0 then none else
  let whole := 2 + u.2.1 + u.1 + 4
  if l.length < whole then some none else
  let b := l.take whole
  if b.take (whole - 4) ++ crcB (b.take (whole - 4)) = b then some (some (⟨l.getD 1 0, (b.take (whole - 4)).drop (whole - 4 - u.1)⟩, whole)) else none

/-- A frame that may be. -/
structure Fra.fit (f : Fra) : Prop where
  typ : f.typ < 256
  len : f.body.length ≤ 4096
  lt : ∀ x ∈ f.body, x < 256

theorem raw_length (f : Fra) : f.raw.length = 2 + sizeF f.body.length + f.body.length := by
  simp [Fra.raw, putF_length]; omega
theorem bytes_length (f : Fra) : f.bytes.length = 2 + sizeF f.body.length + f.body.length + 4 := by
  simp only [Fra.bytes, List.length_append, raw_length, crcB_length]
theorem crcB_lt (l : List Nat) : ∀ x ∈ crcB l, x < 256 := by
  intro x hx
  simp only [crcB, List.mem_cons, List.not_mem_nil, or_false] at hx
  have hb : ∀ z : Int, (IntKind.u8.wrap z).toNat < 256 := fun z => by rw [wrap_u8]; omega
  rcases hx with rfl | rfl | rfl | rfl <;> exact hb _
theorem bytes_lt {f : Fra} (hf : f.fit) : ∀ x ∈ f.bytes, x < 256 := by
  intro x hx
  simp only [Fra.bytes, Fra.raw, List.mem_append, List.mem_cons] at hx
  rcases hx with (rfl | rfl | hx | hx) | hx
  · omega
  · exact hf.typ
  · exact putF_lt (by have := hf.len; omega) x hx
  · exact hf.lt x hx
  · exact crcB_lt _ x hx
theorem sizeF_small {n : Nat} (hn : n ≤ 4096) : sizeF n ≤ 2 := (sizeF_le (by omega) (by omega) (by omega)).2 (by omega)
theorem putF_first {n : Nat} (hn : n ≤ 4096) : ∃ x t, putF n = x :: t ∧ x < 192 ∧ firstK x = sizeF n := by
  have h2 := sizeF_small hn
  have h1 := sizeF_range n
  have hf := first_lt (n := n) (by omega) (by omega)
  have hk := firstK_first (sizeF n) _ h1.1 (by omega) hf
  unfold putF
  rw [if_neg (by omega)]
  refine ⟨_, _, rfl, ?_, hk.1⟩
  rcases (by omega : sizeF n = 1 ∨ sizeF n = 2) with e | e
  · rw [e] at hf ⊢; simp at hf ⊢; omega
  · rw [e] at hf ⊢; simp at hf ⊢; omega
theorem getD_append_left' {l m : List Nat} {i : Nat} (h : i < l.length) : (l ++ m).getD i 0 = l.getD i 0 := by
  simp [List.getD, List.getElem?_append_left h]

theorem next_whole {f : Fra} (hf : f.fit) (rest : List Nat) : nextF (f.bytes ++ rest) = some (some (f, f.bytes.length)) := by
  have hlen := bytes_length f
  have hsz := sizeF_range f.body.length
  obtain ⟨x, t, hp, hx, hk⟩ := putF_first hf.len
  have e0 : (f.bytes ++ rest).getD 0 0 = 181 := rfl
  have e1 : (f.bytes ++ rest).getD 1 0 = f.typ := rfl
  have e2 : (f.bytes ++ rest).getD 2 0 = x := by
    simp only [Fra.bytes, Fra.raw, hp]; rfl
  have ed : (f.bytes ++ rest).drop 2 = [] ++ putF f.body.length ++ (f.body ++ crcB f.raw ++ rest) := by
    simp [Fra.bytes, Fra.raw]
  have hr : uptoF ((f.bytes ++ rest).drop 2) 0 4096 = (f.body.length, sizeF f.body.length, 0) := by
    rw [ed]
    have := read_put (n := f.body.length) (by have := hf.len; omega) [] (f.body ++ crcB f.raw ++ rest)
    simp only [List.length_nil, Nat.zero_add] at this
    unfold uptoF
    rw [this]
    dsimp only
    rw [if_neg (by have := hf.len; omega)]
  unfold nextF
  rw [e0, e1, e2, hr]
  dsimp only
  rw [if_neg (by omega), if_neg (by simp; omega), if_neg (by omega), if_neg (by omega), if_neg (by omega)]
  have hw : 2 + sizeF f.body.length + f.body.length + 4 = f.bytes.length := hlen.symm
  rw [hw, if_neg (by simp)]
  have ht : (f.bytes ++ rest).take f.bytes.length = f.bytes := by simp
  have h4 : f.bytes.length - 4 = f.raw.length := by rw [hlen, raw_length]; omega
  have hraw : f.bytes.take (f.bytes.length - 4) = f.raw := by rw [h4]; simp [Fra.bytes]
  rw [ht, hraw, if_pos (show f.raw ++ crcB f.raw = f.bytes from rfl)]
  congr 3
  have hb : f.raw.drop (f.bytes.length - 4 - f.body.length) = f.body := by
    have : f.bytes.length - 4 - f.body.length = (181 :: f.typ :: putF f.body.length).length := by
      simp [hlen, putF_length]; omega
    rw [this]
    have : f.raw = (181 :: f.typ :: putF f.body.length) ++ f.body := by simp [Fra.raw]
    rw [this, List.drop_left]
  rw [hb]

theorem next_nil : nextF [] = some none := by
  unfold nextF
  rw [if_neg (by simp), if_pos (by simp)]
theorem next_part {f : Fra} (hf : f.fit) {l : List Nat} (hl : l <+: f.bytes) (hlt : l.length < f.bytes.length) : nextF l = some none := by
  obtain ⟨r, hr⟩ := hl
  have hlen := bytes_length f
  have hsz := sizeF_range f.body.length
  obtain ⟨x, t, hp, hx, hk⟩ := putF_first hf.len
  have e0 : 0 < l.length → l.getD 0 0 = 181 := fun h => by
    have := getD_append_left' (m := r) h
    rw [hr] at this
    rw [← this]; rfl
  have e2 : 2 < l.length → l.getD 2 0 = x := fun h => by
    have := getD_append_left' (m := r) h
    rw [hr] at this
    rw [← this]
    simp only [Fra.bytes, Fra.raw, hp]; rfl
  unfold nextF
  rw [if_neg (fun h => h.2 (e0 h.1))]
  by_cases h3 : l.length < 3
  · rw [if_pos h3]
  rw [if_neg h3, if_neg (by rw [e2 (by omega)]; omega)]
  have hd : l.drop 2 ++ r = putF f.body.length ++ (f.body ++ crcB f.raw) := by
    have : (l ++ r).drop 2 = f.bytes.drop 2 := by rw [hr]
    rw [List.drop_append_of_le_length (by omega)] at this
    rw [this]; simp [Fra.bytes, Fra.raw]
  have hdl : (l.drop 2).length = l.length - 2 := by simp
  by_cases hs : sizeF f.body.length ≤ l.length - 2
  · have : ∃ s, l.drop 2 = putF f.body.length ++ s := by
      have hpre : putF f.body.length <+: l.drop 2 := by
        apply List.prefix_of_prefix_length_le (l₃ := l.drop 2 ++ r)
        · rw [hd]; exact List.prefix_append _ _
        · exact List.prefix_append _ _
        · rw [putF_length, hdl]; exact hs
      obtain ⟨s, hs⟩ := hpre
      exact ⟨s, hs.symm⟩
    obtain ⟨s, hsd⟩ := this
    have hru : uptoF (l.drop 2) 0 4096 = (f.body.length, sizeF f.body.length, 0) := by
      rw [hsd]
      have := read_put (n := f.body.length) (by have := hf.len; omega) [] s
      simp only [List.length_nil, Nat.zero_add, List.nil_append] at this
      unfold uptoF
      rw [this]
      dsimp only
      rw [if_neg (by have := hf.len; omega)]
    rw [hru]
    dsimp only
    rw [if_neg (by omega), if_neg (by omega), if_pos (by omega)]
  · have hru : uptoF (l.drop 2) 0 4096 = (0, 0, 2) := by
      have h0 : (l.drop 2).getD 0 0 = x := by
        have := getD_append_left' (l := l.drop 2) (m := r) (i := 0) (by rw [hdl]; omega)
        rw [hd] at this
        rw [← this, hp]; rfl
      have hrd : readF (l.drop 2) 0 = (0, 0, 2) := by
        unfold readF
        rw [if_neg (by rw [hdl]; omega), h0]
        dsimp only
        rw [hk]
        rw [if_neg (by rw [hdl]; omega)]
      unfold uptoF
      rw [hrd]
      rfl
    rw [hru]
    rfl

/-- Frames' bytes, taken in pieces: which frames are whole, what is left. -/
theorem split_frames : ∀ (S : List Fra) (u r : List Nat), u ++ r = S.flatMap Fra.bytes →
    ∃ j t, j ≤ S.length ∧ u = (S.take j).flatMap Fra.bytes ++ t ∧ t ++ r = (S.drop j).flatMap Fra.bytes ∧ (∀ g G, S.drop j = g :: G → t.length < g.bytes.length)
  | [], u, r, h => by
    have : u = [] := by
      have := congrArg List.length h
      simp at this
      simpa using this.1
    subst this
    exact ⟨0, [], by simp, by simp, by simpa using h, fun g G hg => by simp at hg⟩
  | g :: S, u, r, h => by
    by_cases hu : u.length < g.bytes.length
    · exact ⟨0, u, by simp, by simp, by simpa using h, fun g' G hg => by simp at hg; rw [← hg.1]; exact hu⟩
    · have hpre : g.bytes <+: u := by
        apply List.prefix_of_prefix_length_le (l₃ := u ++ r)
        · rw [h]; simp
        · exact List.prefix_append _ _
        · omega
      obtain ⟨u', rfl⟩ := hpre
      have h' : u' ++ r = S.flatMap Fra.bytes := by
        rw [List.flatMap_cons, List.append_assoc] at h
        exact List.append_cancel_left h
      obtain ⟨j, t, h1, h2, h3, h4⟩ := split_frames S u' r h'
      exact ⟨j + 1, t, by simpa using h1, by simp [h2], by simpa using h3, by simpa using h4⟩
end Go.Proofs.Tryd
