/- Package decode: what its functions answer. No statement is proved here. -/
import Derived.Test.YtancmkdmlghlpaaGreatDoorBits
import Derived.Lib.Bytealg
import Derived.Lib.Hide
namespace Go.Proofs.YtancmkdmlghlpaaGreatDoor
open Go Go.RowKit
theorem f384n : (Tryz.f187.name == "runtime.NumGoroutine") = false := by kernel_rfl
theorem f384b : Tryz.f187.body.isNone = true := by kernel_rfl
theorem f384x : Extern.findNext Tryz.f187 = none := by kernel_rfl
theorem f384e : Extern.find Tryz.f187 = some Extern.BytealgIndexByte.indexByte := by kernel_rfl
@[go_sem] theorem run384 (sv : ByteArray) (c : Int) (w : World) : Sem.run Tryz.prog (callFunc 187 #[.string sv, .int .u8 c]) w =
    .ok (.value (.int .i64 (Lib.indexByte sv.data.toList c.toNat.toUInt8))) w := by
  rw [run_callFunc_extern Tryz.func187 f384n f384b f384x f384e]
  rw [Lib.run_indexByteString]
  rfl
def bd : ByteArray := ⟨#[100]⟩
def b1 : ByteArray := ⟨#[49]⟩
def b2 : ByteArray := ⟨#[50]⟩
theorem reg_any (a : BitVec 32) (n : Int) (w : World) (hn : 0 ≤ n) (h : n ≤ 40) :
    Calls Tryz.prog 107 #[U a, I n] w fun e w' => e = .returned (I (u (fieldF a n.toNat 5))) ∧ w = w' := by
  go_enter Tryz.func107, Tryz.ntmps107
  go_wp2_with (go_at_call 103; refine (field_any _ _ _ _ (by omega) (by omega) (by omega) (by omega)).mono ?_; rintro e w' ⟨rfl, rfl⟩)
  go_ret
  exact ⟨by simp [go_sem], rfl⟩
set_option maxRecDepth 100000 in
theorem contains_d_d (w : World) : Calls Tryz.prog 138 #[.string ⟨#[100]⟩, .string ⟨#[100]⟩] w fun e w' => e = .returned (.bool true) ∧ w = w' := by
  go_enter Tryz.func138, Tryz.ntmps138
  go_wp2
  go_ret
  exact ⟨rfl, rfl⟩
theorem has_d_d (m sg pc : Value) (w : World) : Calls Tryz.prog 106 #[.agg #[m, .string ⟨#[100]⟩, sg, pc], .string ⟨#[100]⟩] w
    fun e w' => e = .returned (.bool true) ∧ w.alloc (.cells #[m, .string ⟨#[100]⟩, sg, pc] 123) = w' := by
  go_enter Tryz.func106, Tryz.ntmps106
  go_wp2_with (go_at_call 138; refine (contains_d_d _).mono ?_; rintro e w' ⟨rfl, rfl⟩)
  go_ret
  exact ⟨rfl, rfl⟩
set_option maxRecDepth 100000 in
theorem contains_d_1 (w : World) : Calls Tryz.prog 138 #[.string ⟨#[100]⟩, .string ⟨#[49]⟩] w fun e w' => e = .returned (.bool false) ∧ w = w' := by
  go_enter Tryz.func138, Tryz.ntmps138
  go_wp2
  go_ret
  exact ⟨rfl, rfl⟩
theorem has_d_1 (m sg pc : Value) (w : World) : Calls Tryz.prog 106 #[.agg #[m, .string ⟨#[100]⟩, sg, pc], .string ⟨#[49]⟩] w
    fun e w' => e = .returned (.bool false) ∧ w.alloc (.cells #[m, .string ⟨#[100]⟩, sg, pc] 123) = w' := by
  go_enter Tryz.func106, Tryz.ntmps106
  go_wp2_with (go_at_call 138; refine (contains_d_1 _).mono ?_; rintro e w' ⟨rfl, rfl⟩)
  go_ret
  exact ⟨rfl, rfl⟩
set_option maxRecDepth 100000 in
theorem contains_d_2 (w : World) : Calls Tryz.prog 138 #[.string ⟨#[100]⟩, .string ⟨#[50]⟩] w fun e w' => e = .returned (.bool false) ∧ w = w' := by
  go_enter Tryz.func138, Tryz.ntmps138
  go_wp2
  go_ret
  exact ⟨rfl, rfl⟩
theorem has_d_2 (m sg pc : Value) (w : World) : Calls Tryz.prog 106 #[.agg #[m, .string ⟨#[100]⟩, sg, pc], .string ⟨#[50]⟩] w
    fun e w' => e = .returned (.bool false) ∧ w.alloc (.cells #[m, .string ⟨#[100]⟩, sg, pc] 123) = w' := by
  go_enter Tryz.func106, Tryz.ntmps106
  go_wp2_with (go_at_call 138; refine (contains_d_2 _).mono ?_; rintro e w' ⟨rfl, rfl⟩)
  go_ret
  exact ⟨rfl, rfl⟩
set_option maxRecDepth 100000 in
theorem contains_d1_d (w : World) : Calls Tryz.prog 138 #[.string ⟨#[100, 49]⟩, .string ⟨#[100]⟩] w fun e w' => e = .returned (.bool true) ∧ w = w' := by
  go_enter Tryz.func138, Tryz.ntmps138
  go_wp2
  go_ret
  exact ⟨rfl, rfl⟩
theorem has_d1_d (m sg pc : Value) (w : World) : Calls Tryz.prog 106 #[.agg #[m, .string ⟨#[100, 49]⟩, sg, pc], .string ⟨#[100]⟩] w
    fun e w' => e = .returned (.bool true) ∧ w.alloc (.cells #[m, .string ⟨#[100, 49]⟩, sg, pc] 123) = w' := by
  go_enter Tryz.func106, Tryz.ntmps106
  go_wp2_with (go_at_call 138; refine (contains_d1_d _).mono ?_; rintro e w' ⟨rfl, rfl⟩)
  go_ret
  exact ⟨rfl, rfl⟩
set_option maxRecDepth 100000 in
theorem contains_d1_1 (w : World) : Calls Tryz.prog 138 #[.string ⟨#[100, 49]⟩, .string ⟨#[49]⟩] w fun e w' => e = .returned (.bool true) ∧ w = w' := by
  go_enter Tryz.func138, Tryz.ntmps138
  go_wp2
  go_ret
  exact ⟨rfl, rfl⟩
theorem has_d1_1 (m sg pc : Value) (w : World) : Calls Tryz.prog 106 #[.agg #[m, .string ⟨#[100, 49]⟩, sg, pc], .string ⟨#[49]⟩] w
    fun e w' => e = .returned (.bool true) ∧ w.alloc (.cells #[m, .string ⟨#[100, 49]⟩, sg, pc] 123) = w' := by
  go_enter Tryz.func106, Tryz.ntmps106
  go_wp2_with (go_at_call 138; refine (contains_d1_1 _).mono ?_; rintro e w' ⟨rfl, rfl⟩)
  go_ret
  exact ⟨rfl, rfl⟩
set_option maxRecDepth 100000 in
theorem contains_d1_2 (w : World) : Calls Tryz.prog 138 #[.string ⟨#[100, 49]⟩, .string ⟨#[50]⟩] w fun e w' => e = .returned (.bool false) ∧ w = w' := by
  go_enter Tryz.func138, Tryz.ntmps138
  go_wp2
  go_ret
  exact ⟨rfl, rfl⟩
theorem has_d1_2 (m sg pc : Value) (w : World) : Calls Tryz.prog 106 #[.agg #[m, .string ⟨#[100, 49]⟩, sg, pc], .string ⟨#[50]⟩] w
    fun e w' => e = .returned (.bool false) ∧ w.alloc (.cells #[m, .string ⟨#[100, 49]⟩, sg, pc] 123) = w' := by
  go_enter Tryz.func106, Tryz.ntmps106
  go_wp2_with (go_at_call 138; refine (contains_d1_2 _).mono ?_; rintro e w' ⟨rfl, rfl⟩)
  go_ret
  exact ⟨rfl, rfl⟩
set_option maxRecDepth 100000 in
theorem contains_12_d (w : World) : Calls Tryz.prog 138 #[.string ⟨#[49, 50]⟩, .string ⟨#[100]⟩] w fun e w' => e = .returned (.bool false) ∧ w = w' := by
  go_enter Tryz.func138, Tryz.ntmps138
  go_wp2
  go_ret
  exact ⟨rfl, rfl⟩
theorem has_12_d (m sg pc : Value) (w : World) : Calls Tryz.prog 106 #[.agg #[m, .string ⟨#[49, 50]⟩, sg, pc], .string ⟨#[100]⟩] w
    fun e w' => e = .returned (.bool false) ∧ w.alloc (.cells #[m, .string ⟨#[49, 50]⟩, sg, pc] 123) = w' := by
  go_enter Tryz.func106, Tryz.ntmps106
  go_wp2_with (go_at_call 138; refine (contains_12_d _).mono ?_; rintro e w' ⟨rfl, rfl⟩)
  go_ret
  exact ⟨rfl, rfl⟩
set_option maxRecDepth 100000 in
theorem contains_12_1 (w : World) : Calls Tryz.prog 138 #[.string ⟨#[49, 50]⟩, .string ⟨#[49]⟩] w fun e w' => e = .returned (.bool true) ∧ w = w' := by
  go_enter Tryz.func138, Tryz.ntmps138
  go_wp2
  go_ret
  exact ⟨rfl, rfl⟩
theorem has_12_1 (m sg pc : Value) (w : World) : Calls Tryz.prog 106 #[.agg #[m, .string ⟨#[49, 50]⟩, sg, pc], .string ⟨#[49]⟩] w
    fun e w' => e = .returned (.bool true) ∧ w.alloc (.cells #[m, .string ⟨#[49, 50]⟩, sg, pc] 123) = w' := by
  go_enter Tryz.func106, Tryz.ntmps106
  go_wp2_with (go_at_call 138; refine (contains_12_1 _).mono ?_; rintro e w' ⟨rfl, rfl⟩)
  go_ret
  exact ⟨rfl, rfl⟩
set_option maxRecDepth 100000 in
theorem contains_12_2 (w : World) : Calls Tryz.prog 138 #[.string ⟨#[49, 50]⟩, .string ⟨#[50]⟩] w fun e w' => e = .returned (.bool true) ∧ w = w' := by
  go_enter Tryz.func138, Tryz.ntmps138
  go_wp2
  go_ret
  exact ⟨rfl, rfl⟩
theorem has_12_2 (m sg pc : Value) (w : World) : Calls Tryz.prog 106 #[.agg #[m, .string ⟨#[49, 50]⟩, sg, pc], .string ⟨#[50]⟩] w
    fun e w' => e = .returned (.bool true) ∧ w.alloc (.cells #[m, .string ⟨#[49, 50]⟩, sg, pc] 123) = w' := by
  go_enter Tryz.func106, Tryz.ntmps106
  go_wp2_with (go_at_call 138; refine (contains_12_2 _).mono ?_; rintro e w' ⟨rfl, rfl⟩)
  go_ret
  exact ⟨rfl, rfl⟩
set_option maxRecDepth 100000 in
theorem contains_d12_d (w : World) : Calls Tryz.prog 138 #[.string ⟨#[100, 49, 50]⟩, .string ⟨#[100]⟩] w fun e w' => e = .returned (.bool true) ∧ w = w' := by
  go_enter Tryz.func138, Tryz.ntmps138
  go_wp2
  go_ret
  exact ⟨rfl, rfl⟩
theorem has_d12_d (m sg pc : Value) (w : World) : Calls Tryz.prog 106 #[.agg #[m, .string ⟨#[100, 49, 50]⟩, sg, pc], .string ⟨#[100]⟩] w
    fun e w' => e = .returned (.bool true) ∧ w.alloc (.cells #[m, .string ⟨#[100, 49, 50]⟩, sg, pc] 123) = w' := by
  go_enter Tryz.func106, Tryz.ntmps106
  go_wp2_with (go_at_call 138; refine (contains_d12_d _).mono ?_; rintro e w' ⟨rfl, rfl⟩)
  go_ret
  exact ⟨rfl, rfl⟩
set_option maxRecDepth 100000 in
theorem contains_d12_1 (w : World) : Calls Tryz.prog 138 #[.string ⟨#[100, 49, 50]⟩, .string ⟨#[49]⟩] w fun e w' => e = .returned (.bool true) ∧ w = w' := by
  go_enter Tryz.func138, Tryz.ntmps138
  go_wp2
  go_ret
  exact ⟨rfl, rfl⟩
theorem has_d12_1 (m sg pc : Value) (w : World) : Calls Tryz.prog 106 #[.agg #[m, .string ⟨#[100, 49, 50]⟩, sg, pc], .string ⟨#[49]⟩] w
    fun e w' => e = .returned (.bool true) ∧ w.alloc (.cells #[m, .string ⟨#[100, 49, 50]⟩, sg, pc] 123) = w' := by
  go_enter Tryz.func106, Tryz.ntmps106
  go_wp2_with (go_at_call 138; refine (contains_d12_1 _).mono ?_; rintro e w' ⟨rfl, rfl⟩)
  go_ret
  exact ⟨rfl, rfl⟩
set_option maxRecDepth 100000 in
theorem contains_d12_2 (w : World) : Calls Tryz.prog 138 #[.string ⟨#[100, 49, 50]⟩, .string ⟨#[50]⟩] w fun e w' => e = .returned (.bool true) ∧ w = w' := by
  go_enter Tryz.func138, Tryz.ntmps138
  go_wp2
  go_ret
  exact ⟨rfl, rfl⟩
theorem has_d12_2 (m sg pc : Value) (w : World) : Calls Tryz.prog 106 #[.agg #[m, .string ⟨#[100, 49, 50]⟩, sg, pc], .string ⟨#[50]⟩] w
    fun e w' => e = .returned (.bool true) ∧ w.alloc (.cells #[m, .string ⟨#[100, 49, 50]⟩, sg, pc] 123) = w' := by
  go_enter Tryz.func106, Tryz.ntmps106
  go_wp2_with (go_at_call 138; refine (contains_d12_2 _).mono ?_; rintro e w' ⟨rfl, rfl⟩)
  go_ret
  exact ⟨rfl, rfl⟩
set_option maxRecDepth 100000 in
theorem contains_e_d (w : World) : Calls Tryz.prog 138 #[.string ⟨#[]⟩, .string ⟨#[100]⟩] w fun e w' => e = .returned (.bool false) ∧ w = w' := by
  go_enter Tryz.func138, Tryz.ntmps138
  go_wp2
  go_ret
  exact ⟨rfl, rfl⟩
theorem has_e_d (m sg pc : Value) (w : World) : Calls Tryz.prog 106 #[.agg #[m, .string ⟨#[]⟩, sg, pc], .string ⟨#[100]⟩] w
    fun e w' => e = .returned (.bool false) ∧ w.alloc (.cells #[m, .string ⟨#[]⟩, sg, pc] 123) = w' := by
  go_enter Tryz.func106, Tryz.ntmps106
  go_wp2_with (go_at_call 138; refine (contains_e_d _).mono ?_; rintro e w' ⟨rfl, rfl⟩)
  go_ret
  exact ⟨rfl, rfl⟩
set_option maxRecDepth 100000 in
theorem contains_e_1 (w : World) : Calls Tryz.prog 138 #[.string ⟨#[]⟩, .string ⟨#[49]⟩] w fun e w' => e = .returned (.bool false) ∧ w = w' := by
  go_enter Tryz.func138, Tryz.ntmps138
  go_wp2
  go_ret
  exact ⟨rfl, rfl⟩
theorem has_e_1 (m sg pc : Value) (w : World) : Calls Tryz.prog 106 #[.agg #[m, .string ⟨#[]⟩, sg, pc], .string ⟨#[49]⟩] w
    fun e w' => e = .returned (.bool false) ∧ w.alloc (.cells #[m, .string ⟨#[]⟩, sg, pc] 123) = w' := by
  go_enter Tryz.func106, Tryz.ntmps106
  go_wp2_with (go_at_call 138; refine (contains_e_1 _).mono ?_; rintro e w' ⟨rfl, rfl⟩)
  go_ret
  exact ⟨rfl, rfl⟩
set_option maxRecDepth 100000 in
theorem contains_e_2 (w : World) : Calls Tryz.prog 138 #[.string ⟨#[]⟩, .string ⟨#[50]⟩] w fun e w' => e = .returned (.bool false) ∧ w = w' := by
  go_enter Tryz.func138, Tryz.ntmps138
  go_wp2
  go_ret
  exact ⟨rfl, rfl⟩
theorem has_e_2 (m sg pc : Value) (w : World) : Calls Tryz.prog 106 #[.agg #[m, .string ⟨#[]⟩, sg, pc], .string ⟨#[50]⟩] w
    fun e w' => e = .returned (.bool false) ∧ w.alloc (.cells #[m, .string ⟨#[]⟩, sg, pc] 123) = w' := by
  go_enter Tryz.func106, Tryz.ntmps106
  go_wp2_with (go_at_call 138; refine (contains_e_2 _).mono ?_; rintro e w' ⟨rfl, rfl⟩)
  go_ret
  exact ⟨rfl, rfl⟩
end Go.Proofs.YtancmkdmlghlpaaGreatDoor
