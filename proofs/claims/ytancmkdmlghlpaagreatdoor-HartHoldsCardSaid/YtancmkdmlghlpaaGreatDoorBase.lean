/-
  Words for numbers of 32 and 64 bits in a walk: 'u x', 'q x', 's x' are the integers that a BitVec stands for; the laws bring Go's arithmetic on them back to BitVec. No statement is proved here.
-/
import Derived.WalkKit
import Derived.Deep.Draws
import Derived.Lib.Hide
namespace Go.Proofs.YtancmkdmlghlpaaGreatDoor
open Go Go.RowKit

def u (x : BitVec 32) : Int := (x.toNat : Int)
def q (x : BitVec 64) : Int := (x.toNat : Int)
def s (x : BitVec 32) : Int := x.toInt
abbrev U (x : BitVec 32) : Value := .int .u32 (u x)
abbrev Q (x : BitVec 64) : Value := .int .u64 (q x)
abbrev I (n : Int) : Value := .int .i64 n

theorem u_nonneg (x : BitVec 32) : 0 ≤ u x := by unfold u; omega
theorem u_lt (x : BitVec 32) : u x < 4294967296 := by unfold u; have := x.isLt; omega
theorem q_nonneg (x : BitVec 64) : 0 ≤ q x := by unfold q; omega
theorem q_lt (x : BitVec 64) : q x < 18446744073709551616 := by unfold q; have := x.isLt; omega
theorem u_inj {a b : BitVec 32} : u a = u b ↔ a = b := by
  unfold u; constructor
  · intro h; exact BitVec.eq_of_toNat_eq (by omega)
  · rintro rfl; rfl
theorem q_inj {a b : BitVec 64} : q a = q b ↔ a = b := by
  unfold q; constructor
  · intro h; exact BitVec.eq_of_toNat_eq (by omega)
  · rintro rfl; rfl
theorem u_ofInt (n : Int) : u (BitVec.ofInt 32 n) = n % 4294967296 := by
  unfold u; rw [BitVec.toNat_ofInt]; omega
theorem q_ofInt (n : Int) : q (BitVec.ofInt 64 n) = n % 18446744073709551616 := by
  unfold q; rw [BitVec.toNat_ofInt]; omega
theorem ofInt_u (a : BitVec 32) : BitVec.ofInt 32 (u a) = a := by
  apply u_inj.1; rw [u_ofInt]; exact Int.emod_eq_of_lt (u_nonneg a) (u_lt a)
theorem ofInt_q (a : BitVec 64) : BitVec.ofInt 64 (q a) = a := by
  apply q_inj.1; rw [q_ofInt]; exact Int.emod_eq_of_lt (q_nonneg a) (q_lt a)
theorem ofInt_lit32 (n : Nat) : BitVec.ofInt 32 (no_index (OfNat.ofNat n : Int)) = BitVec.ofNat 32 n := BitVec.ofInt_natCast ..
theorem ofInt_lit64 (n : Nat) : BitVec.ofInt 64 (no_index (OfNat.ofNat n : Int)) = BitVec.ofNat 64 n := BitVec.ofInt_natCast ..

section u32
variable (a b : BitVec 32) (n : Nat)
@[go_sem] theorem u_mod_self : u a % 4294967296 = u a := Int.emod_eq_of_lt (u_nonneg a) (u_lt a)
@[go_sem] theorem u_add : (u a + u b) % 4294967296 = u (a + b) := by
  rw [← u_ofInt, BitVec.ofInt_add, ofInt_u, ofInt_u]
@[go_sem] theorem u_add_lit : (u a + (no_index (OfNat.ofNat n : Int))) % 4294967296 = u (a + BitVec.ofNat 32 n) := by
  rw [← u_ofInt, BitVec.ofInt_add, ofInt_u, ofInt_lit32]
@[go_sem] theorem u_lit_add : ((no_index (OfNat.ofNat n : Int)) + u a) % 4294967296 = u (BitVec.ofNat 32 n + a) := by
  rw [← u_ofInt, BitVec.ofInt_add, ofInt_u, ofInt_lit32]
@[go_sem] theorem u_sub : (u a - u b) % 4294967296 = u (a - b) := by
  rw [← u_ofInt, Int.sub_eq_add_neg, BitVec.ofInt_add, BitVec.ofInt_neg, ofInt_u, ofInt_u, BitVec.sub_eq_add_neg]
@[go_sem] theorem u_sub_lit : (u a - (no_index (OfNat.ofNat n : Int))) % 4294967296 = u (a - BitVec.ofNat 32 n) := by
  rw [← u_ofInt, Int.sub_eq_add_neg, BitVec.ofInt_add, BitVec.ofInt_neg, ofInt_u, ofInt_lit32, BitVec.sub_eq_add_neg]
@[go_sem] theorem u_lit_sub : ((no_index (OfNat.ofNat n : Int)) - u a) % 4294967296 = u (BitVec.ofNat 32 n - a) := by
  rw [← u_ofInt, Int.sub_eq_add_neg, BitVec.ofInt_add, BitVec.ofInt_neg, ofInt_u, ofInt_lit32, BitVec.sub_eq_add_neg]
@[go_sem] theorem u_mul : (u a * u b) % 4294967296 = u (a * b) := by
  rw [← u_ofInt, BitVec.ofInt_mul, ofInt_u, ofInt_u]
@[go_sem] theorem u_mul_lit : (u a * (no_index (OfNat.ofNat n : Int))) % 4294967296 = u (a * BitVec.ofNat 32 n) := by
  rw [← u_ofInt, BitVec.ofInt_mul, ofInt_u, ofInt_lit32]
theorem wrap_u : IntKind.u32.wrap n = u (BitVec.ofNat 32 n) := by
  rw [IntKind.wrap_u32, ← BitVec.ofInt_natCast, u_ofInt]
theorem wrap_toNat : IntKind.u32.wrap (a.toNat : Int) = u a := by
  rw [IntKind.wrap_u32]; exact u_mod_self a
@[go_sem] theorem bits_and_u : bits .and .u32 (u a) (u b) = u (a &&& b) := by
  show IntKind.u32.wrap ((BitVec.ofInt 32 (u a) &&& BitVec.ofInt 32 (u b)).toNat : Int) = _
  rw [ofInt_u, ofInt_u, wrap_toNat]
@[go_sem] theorem bits_or_u : bits .or .u32 (u a) (u b) = u (a ||| b) := by
  show IntKind.u32.wrap ((BitVec.ofInt 32 (u a) ||| BitVec.ofInt 32 (u b)).toNat : Int) = _
  rw [ofInt_u, ofInt_u, wrap_toNat]
@[go_sem] theorem bits_xor_u : bits .xor .u32 (u a) (u b) = u (a ^^^ b) := by
  show IntKind.u32.wrap ((BitVec.ofInt 32 (u a) ^^^ BitVec.ofInt 32 (u b)).toNat : Int) = _
  rw [ofInt_u, ofInt_u, wrap_toNat]
@[go_sem] theorem bits_andNot_u : bits .andNot .u32 (u a) (u b) = u (a &&& ~~~b) := by
  show IntKind.u32.wrap ((BitVec.ofInt 32 (u a) &&& ~~~BitVec.ofInt 32 (u b)).toNat : Int) = _
  rw [ofInt_u, ofInt_u, wrap_toNat]
@[go_sem] theorem bits_and_ul : bits .and .u32 (u a) (no_index (OfNat.ofNat n : Int)) = u (a &&& BitVec.ofNat 32 n) := by
  show IntKind.u32.wrap ((BitVec.ofInt 32 (u a) &&& BitVec.ofInt 32 _).toNat : Int) = _
  rw [ofInt_u, ofInt_lit32, wrap_toNat]
@[go_sem] theorem bits_or_ul : bits .or .u32 (u a) (no_index (OfNat.ofNat n : Int)) = u (a ||| BitVec.ofNat 32 n) := by
  show IntKind.u32.wrap ((BitVec.ofInt 32 (u a) ||| BitVec.ofInt 32 _).toNat : Int) = _
  rw [ofInt_u, ofInt_lit32, wrap_toNat]
@[go_sem] theorem bits_xor_ul : bits .xor .u32 (u a) (no_index (OfNat.ofNat n : Int)) = u (a ^^^ BitVec.ofNat 32 n) := by
  show IntKind.u32.wrap ((BitVec.ofInt 32 (u a) ^^^ BitVec.ofInt 32 _).toNat : Int) = _
  rw [ofInt_u, ofInt_lit32, wrap_toNat]
@[go_sem] theorem bits_xor_lu : bits .xor .u32 (no_index (OfNat.ofNat n : Int)) (u a) = u (BitVec.ofNat 32 n ^^^ a) := by
  show IntKind.u32.wrap ((BitVec.ofInt 32 _ ^^^ BitVec.ofInt 32 (u a)).toNat : Int) = _
  rw [ofInt_u, ofInt_lit32, wrap_toNat]
@[go_sem] theorem bits_and_lu : bits .and .u32 (no_index (OfNat.ofNat n : Int)) (u a) = u (BitVec.ofNat 32 n &&& a) := by
  show IntKind.u32.wrap ((BitVec.ofInt 32 _ &&& BitVec.ofInt 32 (u a)).toNat : Int) = _
  rw [ofInt_u, ofInt_lit32, wrap_toNat]
@[go_sem] theorem bits_or_lu : bits .or .u32 (no_index (OfNat.ofNat n : Int)) (u a) = u (BitVec.ofNat 32 n ||| a) := by
  show IntKind.u32.wrap ((BitVec.ofInt 32 _ ||| BitVec.ofInt 32 (u a)).toNat : Int) = _
  rw [ofInt_u, ofInt_lit32, wrap_toNat]
@[go_sem] theorem bits_andNot_ul : bits .andNot .u32 (u a) (no_index (OfNat.ofNat n : Int)) = u (a &&& ~~~BitVec.ofNat 32 n) := by
  show IntKind.u32.wrap ((BitVec.ofInt 32 (u a) &&& ~~~BitVec.ofInt 32 _).toNat : Int) = _
  rw [ofInt_u, ofInt_lit32, wrap_toNat]
end u32

section u64
variable (a b : BitVec 64) (n : Nat)
@[go_sem] theorem q_mod_self : q a % 18446744073709551616 = q a := Int.emod_eq_of_lt (q_nonneg a) (q_lt a)
@[go_sem] theorem q_add : (q a + q b) % 18446744073709551616 = q (a + b) := by
  rw [← q_ofInt, BitVec.ofInt_add, ofInt_q, ofInt_q]
@[go_sem] theorem q_add_lit : (q a + (no_index (OfNat.ofNat n : Int))) % 18446744073709551616 = q (a + BitVec.ofNat 64 n) := by
  rw [← q_ofInt, BitVec.ofInt_add, ofInt_q, ofInt_lit64]
@[go_sem] theorem q_sub_lit : (q a - (no_index (OfNat.ofNat n : Int))) % 18446744073709551616 = q (a - BitVec.ofNat 64 n) := by
  rw [← q_ofInt, Int.sub_eq_add_neg, BitVec.ofInt_add, BitVec.ofInt_neg, ofInt_q, ofInt_lit64, BitVec.sub_eq_add_neg]
@[go_sem] theorem q_mul : (q a * q b) % 18446744073709551616 = q (a * b) := by
  rw [← q_ofInt, BitVec.ofInt_mul, ofInt_q, ofInt_q]
@[go_sem] theorem q_mul_lit : (q a * (no_index (OfNat.ofNat n : Int))) % 18446744073709551616 = q (a * BitVec.ofNat 64 n) := by
  rw [← q_ofInt, BitVec.ofInt_mul, ofInt_q, ofInt_lit64]
@[go_sem] theorem q_lit_mul : ((no_index (OfNat.ofNat n : Int)) * q a) % 18446744073709551616 = q (BitVec.ofNat 64 n * a) := by
  rw [← q_ofInt, BitVec.ofInt_mul, ofInt_q, ofInt_lit64]
theorem wrap_u64 (n : Int) : IntKind.u64.wrap n = n % 18446744073709551616 := by simp [IntKind.wrap, IntKind.bits, IntKind.signed]
theorem wrap_toNat64 : IntKind.u64.wrap (a.toNat : Int) = q a := by
  rw [wrap_u64]; exact q_mod_self a
@[go_sem] theorem wrapq : IntKind.u64.wrap (q a) = q a := by rw [wrap_u64]; exact q_mod_self a
@[go_sem] theorem bits_and_q : bits .and .u64 (q a) (q b) = q (a &&& b) := by
  show IntKind.u64.wrap ((BitVec.ofInt 64 (q a) &&& BitVec.ofInt 64 (q b)).toNat : Int) = _
  rw [ofInt_q, ofInt_q, wrap_toNat64]
@[go_sem] theorem bits_or_q : bits .or .u64 (q a) (q b) = q (a ||| b) := by
  show IntKind.u64.wrap ((BitVec.ofInt 64 (q a) ||| BitVec.ofInt 64 (q b)).toNat : Int) = _
  rw [ofInt_q, ofInt_q, wrap_toNat64]
@[go_sem] theorem bits_andNot_q : bits .andNot .u64 (q a) (q b) = q (a &&& ~~~b) := by
  show IntKind.u64.wrap ((BitVec.ofInt 64 (q a) &&& ~~~BitVec.ofInt 64 (q b)).toNat : Int) = _
  rw [ofInt_q, ofInt_q, wrap_toNat64]
@[go_sem] theorem bits_and_ql : bits .and .u64 (q a) (no_index (OfNat.ofNat n : Int)) = q (a &&& BitVec.ofNat 64 n) := by
  show IntKind.u64.wrap ((BitVec.ofInt 64 (q a) &&& BitVec.ofInt 64 _).toNat : Int) = _
  rw [ofInt_q, ofInt_lit64, wrap_toNat64]
@[go_sem] theorem bits_andNot_ql : bits .andNot .u64 (q a) (no_index (OfNat.ofNat n : Int)) = q (a &&& ~~~BitVec.ofNat 64 n) := by
  show IntKind.u64.wrap ((BitVec.ofInt 64 (q a) &&& ~~~BitVec.ofInt 64 _).toNat : Int) = _
  rw [ofInt_q, ofInt_lit64, wrap_toNat64]
end u64

section conv
variable (a b : BitVec 32) (c : BitVec 64)
@[go_sem] theorem wrap64_u : wrap64 (u a) = u a := by
  have := u_nonneg a; have := u_lt a; unfold wrap64; omega
@[go_sem] theorem wrapu64_u : IntKind.u64.wrap (u a) = q (a.setWidth 64) := by
  rw [wrap_u64]; unfold u q; rw [BitVec.toNat_setWidth]; omega
theorem u_as_q : u a = q (a.setWidth 64) := by
  unfold u q; rw [BitVec.toNat_setWidth]; have := a.isLt; omega
@[go_sem] theorem q_as_u : q c % 4294967296 = u (c.setWidth 32) := by
  unfold u q; rw [BitVec.toNat_setWidth]; omega
@[go_sem] theorem wrap32_u : wrap32 (u a) = s a := by
  unfold wrap32 u s; rw [BitVec.toInt_eq_toNat_cond]; have := a.isLt; split <;> omega
@[go_sem] theorem s_as_u : s a % 4294967296 = u a := by
  unfold u s; rw [BitVec.toInt_eq_toNat_cond]; have := a.isLt; split <;> omega
@[go_sem] theorem wrap64_s : wrap64 (s a) = s a := by
  unfold s; have := BitVec.toInt_lt (x := a); have := BitVec.le_toInt (x := a); unfold wrap64; omega
end conv
/-! ### blocks -/
def setO (w : World) (r : Nat) (o : Obj) : World := { w with heap := w.heap.setIfInBounds r o }
theorem setO_last (w : World) (o o' : Obj) : setO (w.alloc o) w.heap.size o' = w.alloc o' := by
  unfold setO World.alloc
  congr 1
  show (w.heap.push o).setIfInBounds w.heap.size o' = w.heap.push o'
  apply Array.ext'
  simp
theorem last_obj (w : World) (o : Obj) : (w.alloc o).heap[w.heap.size]? = some o := by
  show (w.heap.push o)[w.heap.size]? = _
  simp
theorem heap_setO0 (w : World) (r k : Nat) (o : Obj) (h : k ≠ r) : (setO w r o).heap[k]? = w.heap[k]? := by
  unfold setO; simp [Ne.symm h]
theorem old_obj {w : World} {k : Nat} {o : Obj} (n : Obj) (h : w.heap[k]? = some o) : (w.alloc n).heap[k]? = some o := by
  rw [Below.heap_alloc w n k (Array.getElem?_eq_some_iff.1 h).1]; exact h
theorem last_obj' {w : World} {k : Nat} (o : Obj) (h : k = w.heap.size) : (w.alloc o).heap[k]? = some o := by subst h; exact last_obj w o
theorem _root_.Go.RowKit.Below.at {B k : Nat} {w w' : World} {o : Obj} (h : Below B w w') (hk : k < B) (e : w.heap[k]? = some o) : w'.heap[k]? = some o := by rw [h.block k hk]; exact e
theorem lt_of_obj {w : World} {k : Nat} {o : Obj} (h : w.heap[k]? = some o) : k < w.heap.size := (Array.getElem?_eq_some_iff.1 h).1
theorem _root_.Go.RowKit.Below.setO {B : Nat} {a w : World} (h : Below B a w) {r : Nat} (hr : B ≤ r) (o : Obj) : Below B a (setO w r o) :=
  h.trans ⟨rfl, rfl, rfl, by simp [_root_.Go.Proofs.YtancmkdmlghlpaaGreatDoor.setO], fun k hk => heap_setO0 w r k o (by omega)⟩
theorem _root_.Go.RowKit.Below.drewN {B : Nat} {a w : World} (h : Below B a w) (n : Nat) : Below B a (w.drewN n) := h.trans ⟨rfl, rfl, rfl, Nat.le_refl _, fun _ _ => rfl⟩
theorem heap_setO (w : World) (r k : Nat) (o : Obj) (h : k ≠ r) : (setO w r o).heap[k]? = w.heap[k]? := by
  unfold setO; simp [Ne.symm h]
theorem heap_setO_self (w : World) (r : Nat) (o o' : Obj) (h : w.heap[r]? = some o') : (setO w r o).heap[r]? = some o := by
  have := (Array.getElem?_eq_some_iff.1 h).1
  unfold setO; simp [this]
end Go.Proofs.YtancmkdmlghlpaaGreatDoor
