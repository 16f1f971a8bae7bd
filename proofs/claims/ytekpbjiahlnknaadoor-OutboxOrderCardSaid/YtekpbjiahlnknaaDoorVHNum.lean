/- Numbers that a kind of integer holds as they are. Its conditions: each number is within its kind. -/
import Derived.Test.YtekpbjiahlnknaaDoorVHDraw
namespace Go.H
theorem w_i64 {a : Int} (h0 : -9223372036854775808 ≤ a) (h1 : a ≤ 9223372036854775807) : IntKind.i64.wrap a = a := by
  show (if (true && decide (a % 18446744073709551616 ≥ 9223372036854775808)) = true then a % 18446744073709551616 - 18446744073709551616 else a % 18446744073709551616) = a
  by_cases h : a % 18446744073709551616 ≥ 9223372036854775808
  · rw [if_pos (by simpa using h)]; omega
  · rw [if_neg (by simpa using h)]; omega
theorem w_u64 {a : Int} (h0 : 0 ≤ a) (h1 : a < 18446744073709551616) : IntKind.u64.wrap a = a := by
  show a % 18446744073709551616 = a
  omega
theorem w_u32 {a : Int} (h0 : 0 ≤ a) (h1 : a < 4294967296) : IntKind.u32.wrap a = a := by
  show a % 4294967296 = a
  omega
theorem w_u16 {a : Int} (h0 : 0 ≤ a) (h1 : a < 65536) : IntKind.u16.wrap a = a := by
  show a % 65536 = a
  omega
theorem w_u8 {a : Int} (h0 : 0 ≤ a) (h1 : a < 256) : IntKind.u8.wrap a = a := by
  show a % 256 = a
  omega
theorem wrap_u64 (a : Int) : IntKind.u64.wrap a = a % 18446744073709551616 := rfl
theorem wrap_u32 (a : Int) : IntKind.u32.wrap a = a % 4294967296 := rfl
theorem wrap_u8 (a : Int) : IntKind.u8.wrap a = a % 256 := rfl

theorem ltS {b n : Nat} (h : b < n) : (b < n + 1) = True := by simp; omega

/-- What was there stays, but for some blocks; more may come. -/
structure Keep (h h' : Heap) (fp : List Nat) : Prop where
  size : h.size ≤ h'.size
  old : ∀ b, b < h.size → b ∉ fp → h'[b]? = h[b]?

theorem Keep.refl (h : Heap) (fp : List Nat) : Keep h h fp := ⟨Nat.le_refl _, fun _ _ _ => rfl⟩
theorem Keep.get {h h' : Heap} {fp : List Nat} (k : Keep h h' fp) {b : Nat} {o : Obj} (hb : h[b]? = some o) (hn : b ∉ fp) : h'[b]? = some o := by
  rw [k.old b (lt_of_some hb) hn, hb]
theorem Keep.trans {a b c : Heap} {fp : List Nat} (k : Keep a b fp) (l : Keep b c fp) : Keep a c fp :=
  ⟨Nat.le_trans k.size l.size, fun i hi hn => (l.old i (Nat.lt_of_lt_of_le hi k.size) hn).trans (k.old i hi hn)⟩
theorem Keep.mono {h h' : Heap} {fp fp' : List Nat} (k : Keep h h' fp) (hs : ∀ x ∈ fp, x ∈ fp') : Keep h h' fp' :=
  ⟨k.size, fun b hb hn => k.old b hb fun hm => hn (hs b hm)⟩
/-- Behind blocks of the call's own nothing that was there counts them. -/
theorem Keep.trans' {a b c : Heap} {fp fp' : List Nat} (k : Keep a b fp) (l : Keep b c fp') (hs : ∀ x ∈ fp', x ∈ fp ∨ a.size ≤ x) : Keep a c fp :=
  ⟨Nat.le_trans k.size l.size, fun i hi hn => (l.old i (Nat.lt_of_lt_of_le hi k.size) (fun hm => by
    rcases hs i hm with h1 | h1
    · exact hn h1
    · omega)).trans (k.old i hi hn)⟩
theorem Keep.push {a b : Heap} {fp : List Nat} (k : Keep a b fp) (o : Obj) : Keep a (b.push o) fp :=
  ⟨by have := k.size; simp; omega, fun i hi hn => by rw [push_old (Nat.lt_of_lt_of_le hi k.size)]; exact k.old i hi hn⟩
theorem Keep.hput {a b : Heap} {fp : List Nat} (k : Keep a b fp) {x : Nat} (hx : x ∈ fp ∨ a.size ≤ x) (o : Nat) (l : List Value) : Keep a (hput b x o l) fp :=
  ⟨by rw [hput_size]; exact k.size, fun i hi hn => by
    rw [hput_ne (by rintro rfl; rcases hx with h1 | h1; exact hn h1; omega)]
    exact k.old i hi hn⟩
end Go.H
