/- Shifts, and package bits: what its functions answer, as BitVec. No statement is proved here. -/
import Derived.Test.YtancmkdmlghlpaaGreatDoorProg
import Derived.Test.YtancmkdmlghlpaaGreatDoorBase
namespace Go.Proofs.YtancmkdmlghlpaaGreatDoor
open Go Go.RowKit

section shifts
variable (P : Program) (w : World) (a b : BitVec 32) (c : BitVec 64) (n : Nat) (k : IntKind)
theorem two_pow_int (m : Nat) : (2 ^ m : Int) = ((2 ^ m : Nat) : Int) := by simp
theorem u_shl_nat (m : Nat) : (u a * 2 ^ (min m 32)) % 4294967296 = u (a <<< m) := by
  rw [← u_ofInt]; congr 1; apply BitVec.eq_of_toNat_eq
  rw [two_pow_int, u, ← Int.natCast_mul, BitVec.ofInt_natCast, BitVec.toNat_ofNat, BitVec.toNat_shiftLeft, Nat.shiftLeft_eq]
  by_cases h : m ≤ 32
  · rw [Nat.min_eq_left h]
  · rw [Nat.min_eq_right (by omega)]
    have h1 : m = 32 + (m - 32) := by omega
    rw [h1, Nat.pow_add, ← Nat.mul_assoc, Nat.mul_right_comm, Nat.mul_mod_left, Nat.mul_mod_left]
theorem q_shl_nat (m : Nat) : (q c * 2 ^ (min m 64)) % 18446744073709551616 = q (c <<< m) := by
  rw [← q_ofInt]; congr 1; apply BitVec.eq_of_toNat_eq
  rw [two_pow_int, q, ← Int.natCast_mul, BitVec.ofInt_natCast, BitVec.toNat_ofNat, BitVec.toNat_shiftLeft, Nat.shiftLeft_eq]
  by_cases h : m ≤ 64
  · rw [Nat.min_eq_left h]
  · rw [Nat.min_eq_right (by omega)]
    have h1 : m = 64 + (m - 64) := by omega
    rw [h1, Nat.pow_add, ← Nat.mul_assoc, Nat.mul_right_comm, Nat.mul_mod_left, Nat.mul_mod_left]
theorem u_shr_nat (m : Nat) : (u a).fdiv (2 ^ (min m 32)) = u (a >>> m) := by
  rw [two_pow_int, Int.fdiv_eq_ediv_of_nonneg _ (Int.natCast_nonneg _), u, u, ← Int.natCast_ediv, BitVec.toNat_ushiftRight, Nat.shiftRight_eq_div_pow]
  by_cases h : m ≤ 32
  · rw [Nat.min_eq_left h]
  · rw [Nat.min_eq_right (by omega), Nat.div_eq_of_lt a.isLt, Nat.div_eq_of_lt]
    exact Nat.lt_of_lt_of_le a.isLt (Nat.pow_le_pow_right (by decide) (by omega))
theorem q_shr_nat (m : Nat) : (q c).fdiv (2 ^ (min m 64)) = q (c >>> m) := by
  rw [two_pow_int, Int.fdiv_eq_ediv_of_nonneg _ (Int.natCast_nonneg _), q, q, ← Int.natCast_ediv, BitVec.toNat_ushiftRight, Nat.shiftRight_eq_div_pow]
  by_cases h : m ≤ 64
  · rw [Nat.min_eq_left h]
  · rw [Nat.min_eq_right (by omega), Nat.div_eq_of_lt c.isLt, Nat.div_eq_of_lt]
    exact Nat.lt_of_lt_of_le c.isLt (Nat.pow_le_pow_right (by decide) (by omega))
theorem s_shr_nat (m : Nat) : (s a).fdiv (2 ^ (min m 32)) = s (a.sshiftRight m) := by
  rw [two_pow_int, Int.fdiv_eq_ediv_of_nonneg _ (Int.natCast_nonneg _), s, s, BitVec.toInt_sshiftRight, Int.shiftRight_eq_div_pow]
  by_cases h : m ≤ 32
  · rw [Nat.min_eq_left h]
  · rw [Nat.min_eq_right (by omega)]
    have h1 := BitVec.toInt_lt (x := a); have h2 := BitVec.le_toInt (x := a)
    have h3 : (2 ^ 32 : Nat) ≤ 2 ^ m := Nat.pow_le_pow_right (by decide) (by omega)
    generalize (2 ^ m : Nat) = M at *
    have h4 : (4294967296 : Int) ≤ (M : Int) := by omega
    by_cases h5 : 0 ≤ a.toInt
    · rw [Int.ediv_eq_zero_of_lt h5 (by omega), Int.ediv_eq_zero_of_lt h5 (by omega)]
    · rw [Int.ediv_eq_neg_one_of_neg_of_le (by omega) (by omega), Int.ediv_eq_neg_one_of_neg_of_le (by omega) (by omega)]
theorem ku (n : Int) : IntKind.u32.wrap n = n % 4294967296 := IntKind.wrap_u32 n
@[go_sem] theorem run_shl_uu : Sem.run P (Op.shift .shl .u32 (u a) .u32 (u b)) w = .ok (.int .u32 (u (a <<< b.toNat))) w := by
  unfold Op.shift; rw [if_neg (by have := u_nonneg b; omega)]
  show Sem.run P (pure (Value.int .u32 (IntKind.u32.wrap (u a * 2 ^ min (u b).toNat 32)))) w = _
  rw [ku, u_shl_nat]; rfl
theorem u_lit : u (BitVec.ofNat 32 n) = (no_index (OfNat.ofNat n : Int)) % 4294967296 := by rw [← ofInt_lit32, u_ofInt]
theorem q_lit : q (BitVec.ofNat 64 n) = (no_index (OfNat.ofNat n : Int)) % 18446744073709551616 := by rw [← ofInt_lit64, q_ofInt]
@[go_sem] theorem run_shl_lu : Sem.run P (Op.shift .shl .u32 (no_index (OfNat.ofNat n)) .u32 (u b)) w = .ok (.int .u32 (u (BitVec.ofNat 32 n <<< b.toNat))) w := by
  unfold Op.shift; rw [if_neg (by have := u_nonneg b; omega)]
  show Sem.run P (pure (Value.int .u32 (IntKind.u32.wrap ((no_index (OfNat.ofNat n : Int)) * 2 ^ min (u b).toNat 32)))) w = _
  rw [ku, ← u_shl_nat, u_lit, Int.mul_emod ((no_index (OfNat.ofNat n : Int)) % 4294967296), Int.emod_emod_of_dvd _ (Int.dvd_refl _), ← Int.mul_emod]; rfl
@[go_sem] theorem run_shr_uu : Sem.run P (Op.shift .shr .u32 (u a) .u32 (u b)) w = .ok (.int .u32 (u (a >>> b.toNat))) w := by
  unfold Op.shift; rw [if_neg (by have := u_nonneg b; omega)]
  show Sem.run P (pure (Value.int .u32 ((u a).fdiv (2 ^ min (u b).toNat 32)))) w = _
  rw [show (u b).toNat = b.toNat from rfl, u_shr_nat]; rfl
@[go_sem] theorem run_shr_su : Sem.run P (Op.shift .shr .i32 (s a) .u32 (u b)) w = .ok (.int .i32 (s (a.sshiftRight b.toNat))) w := by
  unfold Op.shift; rw [if_neg (by have := u_nonneg b; omega)]
  show Sem.run P (pure (Value.int .i32 ((s a).fdiv (2 ^ min (u b).toNat 32)))) w = _
  rw [show (u b).toNat = b.toNat from rfl, s_shr_nat]; rfl
@[go_sem] theorem run_shl_ui (m : Int) (h : 0 ≤ m) (kk : IntKind) : Sem.run P (Op.shift .shl .u32 (u a) kk m) w = .ok (.int .u32 (u (a <<< m.toNat))) w := by
  unfold Op.shift; rw [if_neg (by omega)]
  show Sem.run P (pure (Value.int .u32 (IntKind.u32.wrap (u a * 2 ^ min m.toNat 32)))) w = _
  rw [ku, u_shl_nat]; rfl
@[go_sem] theorem run_shr_ui (m : Int) (h : 0 ≤ m) (kk : IntKind) : Sem.run P (Op.shift .shr .u32 (u a) kk m) w = .ok (.int .u32 (u (a >>> m.toNat))) w := by
  unfold Op.shift; rw [if_neg (by omega)]
  show Sem.run P (pure (Value.int .u32 ((u a).fdiv (2 ^ min m.toNat 32)))) w = _
  rw [u_shr_nat]; rfl
@[go_sem] theorem run_shr_si (m : Int) (h : 0 ≤ m) (kk : IntKind) : Sem.run P (Op.shift .shr .i32 (s a) kk m) w = .ok (.int .i32 (s (a.sshiftRight m.toNat))) w := by
  unfold Op.shift; rw [if_neg (by omega)]
  show Sem.run P (pure (Value.int .i32 ((s a).fdiv (2 ^ min m.toNat 32)))) w = _
  rw [s_shr_nat]; rfl
@[go_sem] theorem run_shl_qi (m : Int) (h : 0 ≤ m) (kk : IntKind) : Sem.run P (Op.shift .shl .u64 (q c) kk m) w = .ok (.int .u64 (q (c <<< m.toNat))) w := by
  unfold Op.shift; rw [if_neg (by omega)]
  show Sem.run P (pure (Value.int .u64 (IntKind.u64.wrap (q c * 2 ^ min m.toNat 64)))) w = _
  rw [wrap_u64, q_shl_nat]; rfl
@[go_sem] theorem run_shl_li (m : Int) (h : 0 ≤ m) (kk : IntKind) : Sem.run P (Op.shift .shl .u64 (no_index (OfNat.ofNat n)) kk m) w = .ok (.int .u64 (q (BitVec.ofNat 64 n <<< m.toNat))) w := by
  unfold Op.shift; rw [if_neg (by omega)]
  show Sem.run P (pure (Value.int .u64 (IntKind.u64.wrap ((no_index (OfNat.ofNat n : Int)) * 2 ^ min m.toNat 64)))) w = _
  rw [wrap_u64, ← q_shl_nat, q_lit, Int.mul_emod ((no_index (OfNat.ofNat n : Int)) % 18446744073709551616), Int.emod_emod_of_dvd _ (Int.dvd_refl _), ← Int.mul_emod]; rfl
@[go_sem] theorem run_shr_qi (m : Int) (h : 0 ≤ m) (kk : IntKind) : Sem.run P (Op.shift .shr .u64 (q c) kk m) w = .ok (.int .u64 (q (c >>> m.toNat))) w := by
  unfold Op.shift; rw [if_neg (by omega)]
  show Sem.run P (pure (Value.int .u64 ((q c).fdiv (2 ^ min m.toNat 64)))) w = _
  rw [q_shr_nat]; rfl
@[go_sem] theorem u_mul_pow (m : Nat) (h : m ≤ 32) : u a * 2 ^ m % 4294967296 = u (a <<< m) := by
  have := u_shl_nat a m; rwa [Nat.min_eq_left h] at this
theorem u_div_pow (m : Nat) : u a / 2 ^ m = u (a >>> m) := by
  rw [two_pow_int, u, u, ← Int.natCast_ediv, BitVec.toNat_ushiftRight, Nat.shiftRight_eq_div_pow]
theorem q_div_pow (m : Nat) : q c / 2 ^ m = q (c >>> m) := by
  rw [two_pow_int, q, q, ← Int.natCast_ediv, BitVec.toNat_ushiftRight, Nat.shiftRight_eq_div_pow]
theorem s_div_pow (m : Nat) : s a / 2 ^ m = s (a.sshiftRight m) := by
  rw [two_pow_int, s, s, BitVec.toInt_sshiftRight, Int.shiftRight_eq_div_pow]
attribute [go_sem] u_div_pow q_div_pow s_div_pow
theorem q_mul_pow (m : Nat) (h : m ≤ 64) : IntKind.u64.wrap (q c * 2 ^ m) = q (c <<< m) := by
  have := q_shl_nat c m; rw [Nat.min_eq_left h] at this; rw [wrap_u64, this]
theorem wrap_pow (m : Nat) (h : m ≤ 63) : IntKind.u64.wrap (2 ^ m) = q (1#64 <<< m) := by
  have := q_mul_pow 1#64 m (by omega); rwa [show q 1#64 = 1 from rfl, Int.one_mul] at this
attribute [go_sem] q_mul_pow wrap_pow
variable (c d : BitVec 64)
@[go_sem] theorem wq_add : IntKind.u64.wrap (q c + q d) = q (c + d) := by rw [wrap_u64, q_add]
@[go_sem] theorem wq_add_lit : IntKind.u64.wrap (q c + (no_index (OfNat.ofNat n : Int))) = q (c + BitVec.ofNat 64 n) := by rw [wrap_u64, q_add_lit]
@[go_sem] theorem wq_sub_lit : IntKind.u64.wrap (q c - (no_index (OfNat.ofNat n : Int))) = q (c - BitVec.ofNat 64 n) := by rw [wrap_u64, q_sub_lit]
@[go_sem] theorem wq_mul : IntKind.u64.wrap (q c * q d) = q (c * d) := by rw [wrap_u64, q_mul]
@[go_sem] theorem wq_mul_lit : IntKind.u64.wrap (q c * (no_index (OfNat.ofNat n : Int))) = q (c * BitVec.ofNat 64 n) := by rw [wrap_u64, q_mul_lit]
@[go_sem] theorem wq_lit_mul : IntKind.u64.wrap ((no_index (OfNat.ofNat n : Int)) * q c) = q (BitVec.ofNat 64 n * c) := by rw [wrap_u64, q_lit_mul]
@[go_sem] theorem wq_add_one : IntKind.u64.wrap (q c + 1) = q (c + 1#64) := wq_add_lit 1 c
@[go_sem] theorem wq_sub_one : IntKind.u64.wrap (q c - 1) = q (c - 1#64) := wq_sub_lit 1 c
@[go_sem] theorem u_add_one : (u a + 1) % 4294967296 = u (a + 1#32) := u_add_lit a 1
@[go_sem] theorem u_sub_one : (u a - 1) % 4294967296 = u (a - 1#32) := u_sub_lit a 1
end shifts

def maskF (m : Nat) : BitVec 64 := (1#64 <<< m) - 1#64
def fieldF (w : BitVec 32) (at' many : Nat) : BitVec 32 := (((w.setWidth 64) >>> at') &&& maskF many).setWidth 32
def putF (w : BitVec 32) (at' many : Nat) (v : BitVec 32) : BitVec 32 :=
  (w &&& ~~~((maskF many).setWidth 32 <<< at')) ||| ((v &&& (maskF many).setWidth 32) <<< at')
def signF (v : BitVec 32) (many : Nat) : BitVec 32 := (v <<< (32 - many)).sshiftRight (32 - many)

theorem mask_any (n : Int) (w : World) (hn : 0 ≤ n) (h : n ≤ 32) :
    Calls Tryz.prog 135 #[I n] w fun e w' => e = .returned (Q (maskF n.toNat)) ∧ w = w' := by
  have h1 : n.toNat ≤ 63 := by omega
  go_enter Tryz.func135, Tryz.ntmps135
  go_wp2
  go_ret
  exact ⟨rfl, rfl⟩
theorem field_any (a : BitVec 32) (n m : Int) (w : World) (hn : 0 ≤ n) (h : n ≤ 40) (hm : 0 ≤ m) (hm' : m ≤ 32) :
    Calls Tryz.prog 103 #[U a, I n, I m] w fun e w' => e = .returned (U (fieldF a n.toNat m.toNat)) ∧ w = w' := by
  go_enter Tryz.func103, Tryz.ntmps103
  go_wp2_with (go_at_call 135; refine (mask_any _ _ (by omega) (by omega)).mono ?_; rintro e w' ⟨rfl, rfl⟩)
  go_ret
  exact ⟨rfl, rfl⟩
theorem put_any (a v : BitVec 32) (n m : Int) (w : World) (hn : 0 ≤ n) (h : n ≤ 40) (hm : 0 ≤ m) (hm' : m ≤ 32) :
    Calls Tryz.prog 136 #[U a, I n, I m, U v] w fun e w' => e = .returned (U (putF a n.toNat m.toNat v)) ∧ w.drew = w' := by
  have h1 : n.toNat ≤ 64 := by omega
  go_enter Tryz.func136, Tryz.ntmps136
  go_wp2_with (go_at_call 135; refine (mask_any _ _ (by omega) (by omega)).mono ?_; rintro e w' ⟨rfl, rfl⟩)
  go_region
  go_wp2
  go_ret
  exact ⟨rfl, rfl⟩
theorem sign_any (a : BitVec 32) (n : Int) (w : World) (hn : 0 < n) (h : n ≤ 31) :
    Calls Tryz.prog 137 #[U a, I n] w fun e w' => e = .returned (U (signF a n.toNat)) ∧ w = w' := by
  have h1 : (32 - n).toNat ≤ 32 := by omega
  go_enter Tryz.func137, Tryz.ntmps137
  go_wp2
  go_ret
  exact ⟨by simp only [signF]; rw [show 32 - n.toNat = (32 - n).toNat by omega]; simp [go_sem], rfl⟩
theorem sign_zero (a : BitVec 32) (w : World) :
    Calls Tryz.prog 137 #[U a, I 0] w fun e w' => e = .returned (U a) ∧ w = w' := by
  go_enter Tryz.func137, Tryz.ntmps137
  go_wp2
  go_ret
  exact ⟨rfl, rfl⟩
end Go.Proofs.YtancmkdmlghlpaaGreatDoor
