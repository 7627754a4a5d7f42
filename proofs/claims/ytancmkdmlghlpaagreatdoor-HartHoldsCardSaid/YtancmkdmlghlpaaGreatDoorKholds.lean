/- dioptralaw19.HartHolds: the reckoner's run. -/
import Derived.Test.YtancmkdmlghlpaaGreatDoorKalive
namespace Go.Proofs.YtancmkdmlghlpaaGreatDoor
open Go Go.RowKit Ev
def xE : E := .cv .u32 (.bin .and .u64 (.bin .shr .u64 (.cv .u32 (.var 0)) (.lit 0)) (.lit 4294967295))
def holdsE : E := .ite (.bvar 0) (.cmp .eql xE (.cv .u32 (.var 0))) (.and (.cmp .eql xE (.cv .u32 (.var 0))) (.cmp .eql (.bin .or .u32 (.bin .andNot .u32 (.cv .u32 (.var 0)) (.lit 4294967295)) (.lit 77)) (.lit 77)))
theorem x_id (n : Int) (h0 : 0 ≤ n) (h1 : n < 4294967296) : IntKind.wrap .u32 (binI .and .u64 (binI .shr .u64 n 0) 4294967295) = n := by
  obtain ⟨m, rfl⟩ := Int.eq_ofNat_of_zero_le h0
  have e1 : binI .shr .u64 (m : Int) 0 = (m : Int) := by simp [binI]
  have h2 : m < 4294967296 := by omega
  have e2 : ((BitVec.ofInt 64 (m : Int) &&& BitVec.ofInt 64 4294967295).toNat : Int) = m := by
    have a1 : BitVec.ofInt 64 (m : Int) = BitVec.ofNat 64 m := BitVec.ofInt_natCast 64 m
    have a2 : BitVec.ofInt 64 4294967295 = BitVec.ofNat 64 4294967295 := by decide
    rw [a1, a2, BitVec.toNat_and, BitVec.toNat_ofNat, BitVec.toNat_ofNat, Nat.mod_eq_of_lt (by omega : m < 2 ^ 64), Nat.mod_eq_of_lt (by omega : 4294967295 < 2 ^ 64)]
    have a3 := Nat.and_two_pow_sub_one_eq_mod m 32
    have a4 : (2 ^ 32 - 1 : Nat) = 4294967295 := by decide
    rw [a4] at a3
    rw [a3, Nat.mod_eq_of_lt (by omega : m < 2 ^ 32)]
  rw [e1]
  show IntKind.wrap .u32 (IntKind.wrap .u64 ((BitVec.ofInt 64 (m : Int) &&& BitVec.ofInt 64 4294967295).toNat : Int)) = m
  rw [e2]
  simp only [IntKind.wrap, IntKind.signed, IntKind.bits, Bool.false_and, Bool.false_eq_true, if_false]
  omega
theorem holdsE_true (v : Env) : holdsE.b v = true := by
  have h0 : 0 ≤ IntKind.wrap .u32 (v.vi 0) ∧ IntKind.wrap .u32 (v.vi 0) < 4294967296 := by
    simp only [IntKind.wrap, IntKind.signed, IntKind.bits, Bool.false_and, Bool.false_eq_true, if_false]
    omega
  have e1 := x_id _ h0.1 h0.2
  have e2 : binI .or .u32 (binI .andNot .u32 (IntKind.wrap .u32 (v.vi 0)) 4294967295) 77 = 77 := by
    have a : ~~~BitVec.ofInt 32 4294967295 = 0#32 := by decide
    have b : binI .andNot .u32 (IntKind.wrap .u32 (v.vi 0)) 4294967295 = 0 := by
      show IntKind.wrap .u32 ((BitVec.ofInt 32 (IntKind.wrap .u32 (v.vi 0)) &&& ~~~BitVec.ofInt 32 4294967295).toNat : Int) = 0
      rw [a, BitVec.and_zero]; decide
    rw [b]; decide
  simp only [holdsE, xE, E.b, E.i, cmpB, e1, e2, BEq.rfl, Bool.and_self]
  cases v.vb 0 <;> rfl
theorem hartHolds_ev : evF cx 8000 8 [.int .u32 (.cv .u32 (.var 0)), .int .u32 (.cv .u32 (.var 1)), .bool (.bvar 0)] stG [] = .leaf ⟨.ret (.bool holdsE), stG⟩ := by kernel_rfl
end Go.Proofs.YtancmkdmlghlpaaGreatDoor
