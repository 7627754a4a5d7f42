/- decode.shape and decode.form.op, at each letter: what they answer. No statement is proved here. -/
import Derived.Test.YtancmkdmlghlpaaGreatDoorOp
namespace Go.Proofs.YtancmkdmlghlpaaGreatDoor
open Go Go.RowKit

/-- The letters of forms: U J I B S R H A L F E V C. -/
def Letter (c : Nat) : Prop := c = 85 ∨ c = 74 ∨ c = 73 ∨ c = 66 ∨ c = 83 ∨ c = 82 ∨ c = 72 ∨ c = 65 ∨ c = 76 ∨ c = 70 ∨ c = 69 ∨ c = 86 ∨ c = 67
def maskL (c : Nat) : BitVec 32 := if c = 85 then 127#32 else if c = 74 then 127#32 else if c = 73 then 28799#32 else if c = 66 then 28799#32 else if c = 83 then 28799#32 else if c = 82 then 4261441663#32 else if c = 72 then 4261441663#32 else if c = 65 then 4160778367#32 else if c = 76 then 4193284223#32 else if c = 70 then 28799#32 else if c = 69 then 4294967295#32 else if c = 86 then 4261445631#32 else if c = 67 then 28799#32 else 0#32
def fsL (c : Nat) : ByteArray := if c = 85 then ⟨#[100]⟩ else if c = 74 then ⟨#[100]⟩ else if c = 73 then ⟨#[100, 49]⟩ else if c = 66 then ⟨#[49, 50]⟩ else if c = 83 then ⟨#[49, 50]⟩ else if c = 82 then ⟨#[100, 49, 50]⟩ else if c = 72 then ⟨#[100, 49]⟩ else if c = 65 then ⟨#[100, 49, 50]⟩ else if c = 76 then ⟨#[100, 49]⟩ else if c = 70 then ⟨#[100, 49]⟩ else if c = 69 then ⟨#[]⟩ else if c = 86 then ⟨#[49, 50]⟩ else if c = 67 then ⟨#[100, 49]⟩ else ⟨#[]⟩
def sgL (c : Nat) : Int := if c = 85 then 0 else if c = 74 then 21 else if c = 73 then 12 else if c = 66 then 13 else if c = 83 then 12 else if c = 82 then 0 else if c = 72 then 0 else if c = 65 then 0 else if c = 76 then 0 else if c = 70 then 0 else if c = 69 then 0 else if c = 86 then 0 else if c = 67 then 0 else 0
def psL (c : Nat) : List Pc := if c = 85 then [⟨12, 20, 12⟩] else if c = 74 then [⟨31, 1, 20⟩, ⟨12, 8, 12⟩, ⟨20, 1, 11⟩, ⟨21, 10, 1⟩] else if c = 73 then [⟨20, 12, 0⟩] else if c = 66 then [⟨31, 1, 12⟩, ⟨7, 1, 11⟩, ⟨25, 6, 5⟩, ⟨8, 4, 1⟩] else if c = 83 then [⟨25, 7, 5⟩, ⟨7, 5, 0⟩] else if c = 82 then [] else if c = 72 then [⟨20, 5, 0⟩] else if c = 65 then [⟨25, 2, 0⟩] else if c = 76 then [⟨25, 2, 0⟩] else if c = 70 then [⟨20, 12, 0⟩] else if c = 69 then [] else if c = 86 then [] else if c = 67 then [⟨20, 12, 0⟩] else []
def hdL (c : Nat) : Bool := if c = 85 then true else if c = 74 then true else if c = 73 then true else if c = 66 then false else if c = 83 then false else if c = 82 then true else if c = 72 then true else if c = 65 then true else if c = 76 then true else if c = 70 then true else if c = 69 then false else if c = 86 then false else if c = 67 then true else false
def h1L (c : Nat) : Bool := if c = 85 then false else if c = 74 then false else if c = 73 then true else if c = 66 then true else if c = 83 then true else if c = 82 then true else if c = 72 then true else if c = 65 then true else if c = 76 then true else if c = 70 then true else if c = 69 then false else if c = 86 then true else if c = 67 then true else false
def h2L (c : Nat) : Bool := if c = 85 then false else if c = 74 then false else if c = 73 then false else if c = 66 then true else if c = 83 then true else if c = 82 then true else if c = 72 then false else if c = 65 then true else if c = 76 then false else if c = 70 then false else if c = 69 then false else if c = 86 then true else if c = 67 then false else false
def immL (c : Nat) (x : BitVec 32) : BitVec 32 := signF0 (numF x (psL c)) (sgL c)
def rdL (c : Nat) (x : BitVec 32) : Int := if hdL c then u (fieldF x 7 5) else 0
def r1L (c : Nat) (x : BitVec 32) : Int := if h1L c then u (fieldF x 15 5) else 0
def r2L (c : Nat) (x : BitVec 32) : Int := if h2L c then u (fieldF x 20 5) else 0
/-- A slice of pieces: nil, or a block of its own. -/
def PcS (w : World) (v : Value) (ps : List Pc) : Prop :=
  (ps = [] ∧ v = .slice none 0 0) ∨ (∃ pb, v = .slice (some ⟨pb, 0, none⟩) ps.length ps.length ∧ w.heap[pb]? = some (.cells (pcells ps).toArray (/-T-/ 165) (0, 0)))
theorem number_nil (m fs : Value) (x : BitVec 32) (w : World) : Calls Tryz.prog 105 #[.agg #[m, fs, I 0, .slice none 0 0], U x] w
    fun e w' => e = .returned (U 0#32) ∧ Below w.heap.size w w' := by
  go_enter Tryz.func105, Tryz.ntmps105
  go_wp2
  refine wp_loop_rounds 1 ?_
  rw [rounds_succ]
  go_wp2_with (go_at_call 137; refine (sign_zero 0#32 _).mono ?_; rintro e w' ⟨rfl, rfl⟩)
  go_ret
  exact ⟨rfl, (Below.refl _ _).alloc (Nat.le_refl _) _⟩
theorem number_L (m fs : Value) (sg : Int) (hsg : sg = 0 ∨ 0 < sg ∧ sg ≤ 31) (ps : List Pc) (hps : ∀ p ∈ ps, p.ok) (hl : ps.length ≤ 100) (hn : ps = [] → sg = 0) (sl : Value) (x : BitVec 32) (w : World) (h : PcS w sl ps) :
    ∀ wr, Below w.heap.size w wr → Calls Tryz.prog 105 #[.agg #[m, fs, I sg, sl], U x] wr fun e w' => e = .returned (U (signF0 (numF x ps) sg)) ∧ Below wr.heap.size wr w' := by
  intro wr hb
  rcases h with ⟨rfl, rfl⟩ | ⟨pb, rfl, hp⟩
  · obtain rfl := hn rfl
    exact number_nil m fs x wr
  · exact number_any m fs sg hsg ps hps pb _ _ x wr (hb.at (lt_of_obj hp) hp) hl

set_option maxRecDepth 100000 in
theorem shape_U (w : World) : Calls Tryz.prog 63 #[.int .u8 85] w fun e w' => ∃ sl, e = .returned (.agg #[.int .u32 127, .string ⟨#[100]⟩, I 0, sl]) ∧ Below w.heap.size w w' ∧ PcS w' sl [⟨12, 20, 12⟩] := by
  go_enter Tryz.func63, Tryz.ntmps63
  go_wp2
  refine bodyPost_ret (results_cell_row rfl _ _ w.heap.size (/-T-/ 123) _ (0, 0) _ rfl (old_obj _ (last_obj w _)) Tryz.underlying123 rfl (by kernel_rfl)) rfl ⟨_, rfl, ?_, ?_⟩
  · exact ((Below.refl _ _).alloc (Nat.le_refl _) _).alloc (by simp) _
  · exact Or.inr ⟨w.heap.size + 1, rfl, last_obj' _ (by simp)⟩
set_option maxRecDepth 100000 in
theorem opl_U (sl : Value) (name : Int) (x : BitVec 32) (w : World) (h : PcS w sl [⟨12, 20, 12⟩]) :
    Calls Tryz.prog 64 #[.agg #[.int .u32 127, .string ⟨#[100]⟩, I 0, sl], I name, U x] w fun e w' => e = .returned (opV name (rdL 85 x) (r1L 85 x) (r2L 85 x) (immL 85 x)) ∧ Below w.heap.size w w' :=
  op_d _ _ sl name x _ w (number_L _ _ 0 (by omega) [⟨12, 20, 12⟩] (by simp [Pc.ok]) (by simp) (by simp) sl x w h)
set_option maxRecDepth 100000 in
theorem shape_J (w : World) : Calls Tryz.prog 63 #[.int .u8 74] w fun e w' => ∃ sl, e = .returned (.agg #[.int .u32 127, .string ⟨#[100]⟩, I 21, sl]) ∧ Below w.heap.size w w' ∧ PcS w' sl [⟨31, 1, 20⟩, ⟨12, 8, 12⟩, ⟨20, 1, 11⟩, ⟨21, 10, 1⟩] := by
  go_enter Tryz.func63, Tryz.ntmps63
  go_wp2
  refine bodyPost_ret (results_cell_row rfl _ _ w.heap.size (/-T-/ 123) _ (0, 0) _ rfl (old_obj _ (last_obj w _)) Tryz.underlying123 rfl (by kernel_rfl)) rfl ⟨_, rfl, ?_, ?_⟩
  · exact ((Below.refl _ _).alloc (Nat.le_refl _) _).alloc (by simp) _
  · exact Or.inr ⟨w.heap.size + 1, rfl, last_obj' _ (by simp)⟩
set_option maxRecDepth 100000 in
theorem opl_J (sl : Value) (name : Int) (x : BitVec 32) (w : World) (h : PcS w sl [⟨31, 1, 20⟩, ⟨12, 8, 12⟩, ⟨20, 1, 11⟩, ⟨21, 10, 1⟩]) :
    Calls Tryz.prog 64 #[.agg #[.int .u32 127, .string ⟨#[100]⟩, I 21, sl], I name, U x] w fun e w' => e = .returned (opV name (rdL 74 x) (r1L 74 x) (r2L 74 x) (immL 74 x)) ∧ Below w.heap.size w w' :=
  op_d _ _ sl name x _ w (number_L _ _ 21 (by omega) [⟨31, 1, 20⟩, ⟨12, 8, 12⟩, ⟨20, 1, 11⟩, ⟨21, 10, 1⟩] (by simp [Pc.ok]) (by simp) (by simp) sl x w h)
set_option maxRecDepth 100000 in
theorem shape_I (w : World) : Calls Tryz.prog 63 #[.int .u8 73] w fun e w' => ∃ sl, e = .returned (.agg #[.int .u32 28799, .string ⟨#[100, 49]⟩, I 12, sl]) ∧ Below w.heap.size w w' ∧ PcS w' sl [⟨20, 12, 0⟩] := by
  go_enter Tryz.func63, Tryz.ntmps63
  go_wp2
  refine bodyPost_ret (results_cell_row rfl _ _ w.heap.size (/-T-/ 123) _ (0, 0) _ rfl (old_obj _ (last_obj w _)) Tryz.underlying123 rfl (by kernel_rfl)) rfl ⟨_, rfl, ?_, ?_⟩
  · exact ((Below.refl _ _).alloc (Nat.le_refl _) _).alloc (by simp) _
  · exact Or.inr ⟨w.heap.size + 1, rfl, last_obj' _ (by simp)⟩
set_option maxRecDepth 100000 in
theorem opl_I (sl : Value) (name : Int) (x : BitVec 32) (w : World) (h : PcS w sl [⟨20, 12, 0⟩]) :
    Calls Tryz.prog 64 #[.agg #[.int .u32 28799, .string ⟨#[100, 49]⟩, I 12, sl], I name, U x] w fun e w' => e = .returned (opV name (rdL 73 x) (r1L 73 x) (r2L 73 x) (immL 73 x)) ∧ Below w.heap.size w w' :=
  op_d1 _ _ sl name x _ w (number_L _ _ 12 (by omega) [⟨20, 12, 0⟩] (by simp [Pc.ok]) (by simp) (by simp) sl x w h)
set_option maxRecDepth 100000 in
theorem shape_B (w : World) : Calls Tryz.prog 63 #[.int .u8 66] w fun e w' => ∃ sl, e = .returned (.agg #[.int .u32 28799, .string ⟨#[49, 50]⟩, I 13, sl]) ∧ Below w.heap.size w w' ∧ PcS w' sl [⟨31, 1, 12⟩, ⟨7, 1, 11⟩, ⟨25, 6, 5⟩, ⟨8, 4, 1⟩] := by
  go_enter Tryz.func63, Tryz.ntmps63
  go_wp2
  refine bodyPost_ret (results_cell_row rfl _ _ w.heap.size (/-T-/ 123) _ (0, 0) _ rfl (old_obj _ (last_obj w _)) Tryz.underlying123 rfl (by kernel_rfl)) rfl ⟨_, rfl, ?_, ?_⟩
  · exact ((Below.refl _ _).alloc (Nat.le_refl _) _).alloc (by simp) _
  · exact Or.inr ⟨w.heap.size + 1, rfl, last_obj' _ (by simp)⟩
set_option maxRecDepth 100000 in
theorem opl_B (sl : Value) (name : Int) (x : BitVec 32) (w : World) (h : PcS w sl [⟨31, 1, 12⟩, ⟨7, 1, 11⟩, ⟨25, 6, 5⟩, ⟨8, 4, 1⟩]) :
    Calls Tryz.prog 64 #[.agg #[.int .u32 28799, .string ⟨#[49, 50]⟩, I 13, sl], I name, U x] w fun e w' => e = .returned (opV name (rdL 66 x) (r1L 66 x) (r2L 66 x) (immL 66 x)) ∧ Below w.heap.size w w' :=
  op_12 _ _ sl name x _ w (number_L _ _ 13 (by omega) [⟨31, 1, 12⟩, ⟨7, 1, 11⟩, ⟨25, 6, 5⟩, ⟨8, 4, 1⟩] (by simp [Pc.ok]) (by simp) (by simp) sl x w h)
set_option maxRecDepth 100000 in
theorem shape_S (w : World) : Calls Tryz.prog 63 #[.int .u8 83] w fun e w' => ∃ sl, e = .returned (.agg #[.int .u32 28799, .string ⟨#[49, 50]⟩, I 12, sl]) ∧ Below w.heap.size w w' ∧ PcS w' sl [⟨25, 7, 5⟩, ⟨7, 5, 0⟩] := by
  go_enter Tryz.func63, Tryz.ntmps63
  go_wp2
  refine bodyPost_ret (results_cell_row rfl _ _ w.heap.size (/-T-/ 123) _ (0, 0) _ rfl (old_obj _ (last_obj w _)) Tryz.underlying123 rfl (by kernel_rfl)) rfl ⟨_, rfl, ?_, ?_⟩
  · exact ((Below.refl _ _).alloc (Nat.le_refl _) _).alloc (by simp) _
  · exact Or.inr ⟨w.heap.size + 1, rfl, last_obj' _ (by simp)⟩
set_option maxRecDepth 100000 in
theorem opl_S (sl : Value) (name : Int) (x : BitVec 32) (w : World) (h : PcS w sl [⟨25, 7, 5⟩, ⟨7, 5, 0⟩]) :
    Calls Tryz.prog 64 #[.agg #[.int .u32 28799, .string ⟨#[49, 50]⟩, I 12, sl], I name, U x] w fun e w' => e = .returned (opV name (rdL 83 x) (r1L 83 x) (r2L 83 x) (immL 83 x)) ∧ Below w.heap.size w w' :=
  op_12 _ _ sl name x _ w (number_L _ _ 12 (by omega) [⟨25, 7, 5⟩, ⟨7, 5, 0⟩] (by simp [Pc.ok]) (by simp) (by simp) sl x w h)
set_option maxRecDepth 100000 in
theorem shape_R (w : World) : Calls Tryz.prog 63 #[.int .u8 82] w fun e w' => ∃ sl, e = .returned (.agg #[.int .u32 4261441663, .string ⟨#[100, 49, 50]⟩, I 0, sl]) ∧ Below w.heap.size w w' ∧ PcS w' sl [] := by
  go_enter Tryz.func63, Tryz.ntmps63
  go_wp2
  refine bodyPost_ret (results_cell_row rfl _ _ w.heap.size (/-T-/ 123) _ (0, 0) _ rfl (last_obj w _) Tryz.underlying123 rfl (by kernel_rfl)) rfl ⟨_, rfl, ?_, ?_⟩
  · exact (Below.refl _ _).alloc (Nat.le_refl _) _
  · exact Or.inl ⟨rfl, rfl⟩
set_option maxRecDepth 100000 in
theorem opl_R (sl : Value) (name : Int) (x : BitVec 32) (w : World) (h : PcS w sl []) :
    Calls Tryz.prog 64 #[.agg #[.int .u32 4261441663, .string ⟨#[100, 49, 50]⟩, I 0, sl], I name, U x] w fun e w' => e = .returned (opV name (rdL 82 x) (r1L 82 x) (r2L 82 x) (immL 82 x)) ∧ Below w.heap.size w w' :=
  op_d12 _ _ sl name x _ w (number_L _ _ 0 (by omega) [] (by simp [Pc.ok]) (by simp) (by simp) sl x w h)
set_option maxRecDepth 100000 in
theorem shape_H (w : World) : Calls Tryz.prog 63 #[.int .u8 72] w fun e w' => ∃ sl, e = .returned (.agg #[.int .u32 4261441663, .string ⟨#[100, 49]⟩, I 0, sl]) ∧ Below w.heap.size w w' ∧ PcS w' sl [⟨20, 5, 0⟩] := by
  go_enter Tryz.func63, Tryz.ntmps63
  go_wp2
  refine bodyPost_ret (results_cell_row rfl _ _ w.heap.size (/-T-/ 123) _ (0, 0) _ rfl (old_obj _ (last_obj w _)) Tryz.underlying123 rfl (by kernel_rfl)) rfl ⟨_, rfl, ?_, ?_⟩
  · exact ((Below.refl _ _).alloc (Nat.le_refl _) _).alloc (by simp) _
  · exact Or.inr ⟨w.heap.size + 1, rfl, last_obj' _ (by simp)⟩
set_option maxRecDepth 100000 in
theorem opl_H (sl : Value) (name : Int) (x : BitVec 32) (w : World) (h : PcS w sl [⟨20, 5, 0⟩]) :
    Calls Tryz.prog 64 #[.agg #[.int .u32 4261441663, .string ⟨#[100, 49]⟩, I 0, sl], I name, U x] w fun e w' => e = .returned (opV name (rdL 72 x) (r1L 72 x) (r2L 72 x) (immL 72 x)) ∧ Below w.heap.size w w' :=
  op_d1 _ _ sl name x _ w (number_L _ _ 0 (by omega) [⟨20, 5, 0⟩] (by simp [Pc.ok]) (by simp) (by simp) sl x w h)
set_option maxRecDepth 100000 in
theorem shape_A (w : World) : Calls Tryz.prog 63 #[.int .u8 65] w fun e w' => ∃ sl, e = .returned (.agg #[.int .u32 4160778367, .string ⟨#[100, 49, 50]⟩, I 0, sl]) ∧ Below w.heap.size w w' ∧ PcS w' sl [⟨25, 2, 0⟩] := by
  go_enter Tryz.func63, Tryz.ntmps63
  go_wp2
  refine bodyPost_ret (results_cell_row rfl _ _ w.heap.size (/-T-/ 123) _ (0, 0) _ rfl (old_obj _ (last_obj w _)) Tryz.underlying123 rfl (by kernel_rfl)) rfl ⟨_, rfl, ?_, ?_⟩
  · exact ((Below.refl _ _).alloc (Nat.le_refl _) _).alloc (by simp) _
  · exact Or.inr ⟨w.heap.size + 1, rfl, last_obj' _ (by simp)⟩
set_option maxRecDepth 100000 in
theorem opl_A (sl : Value) (name : Int) (x : BitVec 32) (w : World) (h : PcS w sl [⟨25, 2, 0⟩]) :
    Calls Tryz.prog 64 #[.agg #[.int .u32 4160778367, .string ⟨#[100, 49, 50]⟩, I 0, sl], I name, U x] w fun e w' => e = .returned (opV name (rdL 65 x) (r1L 65 x) (r2L 65 x) (immL 65 x)) ∧ Below w.heap.size w w' :=
  op_d12 _ _ sl name x _ w (number_L _ _ 0 (by omega) [⟨25, 2, 0⟩] (by simp [Pc.ok]) (by simp) (by simp) sl x w h)
set_option maxRecDepth 100000 in
theorem shape_L (w : World) : Calls Tryz.prog 63 #[.int .u8 76] w fun e w' => ∃ sl, e = .returned (.agg #[.int .u32 4193284223, .string ⟨#[100, 49]⟩, I 0, sl]) ∧ Below w.heap.size w w' ∧ PcS w' sl [⟨25, 2, 0⟩] := by
  go_enter Tryz.func63, Tryz.ntmps63
  go_wp2
  refine bodyPost_ret (results_cell_row rfl _ _ w.heap.size (/-T-/ 123) _ (0, 0) _ rfl (old_obj _ (last_obj w _)) Tryz.underlying123 rfl (by kernel_rfl)) rfl ⟨_, rfl, ?_, ?_⟩
  · exact ((Below.refl _ _).alloc (Nat.le_refl _) _).alloc (by simp) _
  · exact Or.inr ⟨w.heap.size + 1, rfl, last_obj' _ (by simp)⟩
set_option maxRecDepth 100000 in
theorem opl_L (sl : Value) (name : Int) (x : BitVec 32) (w : World) (h : PcS w sl [⟨25, 2, 0⟩]) :
    Calls Tryz.prog 64 #[.agg #[.int .u32 4193284223, .string ⟨#[100, 49]⟩, I 0, sl], I name, U x] w fun e w' => e = .returned (opV name (rdL 76 x) (r1L 76 x) (r2L 76 x) (immL 76 x)) ∧ Below w.heap.size w w' :=
  op_d1 _ _ sl name x _ w (number_L _ _ 0 (by omega) [⟨25, 2, 0⟩] (by simp [Pc.ok]) (by simp) (by simp) sl x w h)
set_option maxRecDepth 100000 in
theorem shape_F (w : World) : Calls Tryz.prog 63 #[.int .u8 70] w fun e w' => ∃ sl, e = .returned (.agg #[.int .u32 28799, .string ⟨#[100, 49]⟩, I 0, sl]) ∧ Below w.heap.size w w' ∧ PcS w' sl [⟨20, 12, 0⟩] := by
  go_enter Tryz.func63, Tryz.ntmps63
  go_wp2
  refine bodyPost_ret (results_cell_row rfl _ _ w.heap.size (/-T-/ 123) _ (0, 0) _ rfl (old_obj _ (last_obj w _)) Tryz.underlying123 rfl (by kernel_rfl)) rfl ⟨_, rfl, ?_, ?_⟩
  · exact ((Below.refl _ _).alloc (Nat.le_refl _) _).alloc (by simp) _
  · exact Or.inr ⟨w.heap.size + 1, rfl, last_obj' _ (by simp)⟩
set_option maxRecDepth 100000 in
theorem opl_F (sl : Value) (name : Int) (x : BitVec 32) (w : World) (h : PcS w sl [⟨20, 12, 0⟩]) :
    Calls Tryz.prog 64 #[.agg #[.int .u32 28799, .string ⟨#[100, 49]⟩, I 0, sl], I name, U x] w fun e w' => e = .returned (opV name (rdL 70 x) (r1L 70 x) (r2L 70 x) (immL 70 x)) ∧ Below w.heap.size w w' :=
  op_d1 _ _ sl name x _ w (number_L _ _ 0 (by omega) [⟨20, 12, 0⟩] (by simp [Pc.ok]) (by simp) (by simp) sl x w h)
set_option maxRecDepth 100000 in
theorem shape_E (w : World) : Calls Tryz.prog 63 #[.int .u8 69] w fun e w' => ∃ sl, e = .returned (.agg #[.int .u32 4294967295, .string ⟨#[]⟩, I 0, sl]) ∧ Below w.heap.size w w' ∧ PcS w' sl [] := by
  go_enter Tryz.func63, Tryz.ntmps63
  go_wp2
  refine bodyPost_ret (results_cell_row rfl _ _ w.heap.size (/-T-/ 123) _ (0, 0) _ rfl (last_obj w _) Tryz.underlying123 rfl (by kernel_rfl)) rfl ⟨_, rfl, ?_, ?_⟩
  · exact (Below.refl _ _).alloc (Nat.le_refl _) _
  · exact Or.inl ⟨rfl, rfl⟩
set_option maxRecDepth 100000 in
theorem opl_E (sl : Value) (name : Int) (x : BitVec 32) (w : World) (h : PcS w sl []) :
    Calls Tryz.prog 64 #[.agg #[.int .u32 4294967295, .string ⟨#[]⟩, I 0, sl], I name, U x] w fun e w' => e = .returned (opV name (rdL 69 x) (r1L 69 x) (r2L 69 x) (immL 69 x)) ∧ Below w.heap.size w w' :=
  op_e _ _ sl name x _ w (number_L _ _ 0 (by omega) [] (by simp [Pc.ok]) (by simp) (by simp) sl x w h)
set_option maxRecDepth 100000 in
theorem shape_V (w : World) : Calls Tryz.prog 63 #[.int .u8 86] w fun e w' => ∃ sl, e = .returned (.agg #[.int .u32 4261445631, .string ⟨#[49, 50]⟩, I 0, sl]) ∧ Below w.heap.size w w' ∧ PcS w' sl [] := by
  go_enter Tryz.func63, Tryz.ntmps63
  go_wp2
  refine bodyPost_ret (results_cell_row rfl _ _ w.heap.size (/-T-/ 123) _ (0, 0) _ rfl (last_obj w _) Tryz.underlying123 rfl (by kernel_rfl)) rfl ⟨_, rfl, ?_, ?_⟩
  · exact (Below.refl _ _).alloc (Nat.le_refl _) _
  · exact Or.inl ⟨rfl, rfl⟩
set_option maxRecDepth 100000 in
theorem opl_V (sl : Value) (name : Int) (x : BitVec 32) (w : World) (h : PcS w sl []) :
    Calls Tryz.prog 64 #[.agg #[.int .u32 4261445631, .string ⟨#[49, 50]⟩, I 0, sl], I name, U x] w fun e w' => e = .returned (opV name (rdL 86 x) (r1L 86 x) (r2L 86 x) (immL 86 x)) ∧ Below w.heap.size w w' :=
  op_12 _ _ sl name x _ w (number_L _ _ 0 (by omega) [] (by simp [Pc.ok]) (by simp) (by simp) sl x w h)
set_option maxRecDepth 100000 in
theorem shape_C (w : World) : Calls Tryz.prog 63 #[.int .u8 67] w fun e w' => ∃ sl, e = .returned (.agg #[.int .u32 28799, .string ⟨#[100, 49]⟩, I 0, sl]) ∧ Below w.heap.size w w' ∧ PcS w' sl [⟨20, 12, 0⟩] := by
  go_enter Tryz.func63, Tryz.ntmps63
  go_wp2
  refine bodyPost_ret (results_cell_row rfl _ _ w.heap.size (/-T-/ 123) _ (0, 0) _ rfl (old_obj _ (last_obj w _)) Tryz.underlying123 rfl (by kernel_rfl)) rfl ⟨_, rfl, ?_, ?_⟩
  · exact ((Below.refl _ _).alloc (Nat.le_refl _) _).alloc (by simp) _
  · exact Or.inr ⟨w.heap.size + 1, rfl, last_obj' _ (by simp)⟩
set_option maxRecDepth 100000 in
theorem opl_C (sl : Value) (name : Int) (x : BitVec 32) (w : World) (h : PcS w sl [⟨20, 12, 0⟩]) :
    Calls Tryz.prog 64 #[.agg #[.int .u32 28799, .string ⟨#[100, 49]⟩, I 0, sl], I name, U x] w fun e w' => e = .returned (opV name (rdL 67 x) (r1L 67 x) (r2L 67 x) (immL 67 x)) ∧ Below w.heap.size w w' :=
  op_d1 _ _ sl name x _ w (number_L _ _ 0 (by omega) [⟨20, 12, 0⟩] (by simp [Pc.ok]) (by simp) (by simp) sl x w h)
theorem shape_any (c : Nat) (hc : Letter c) (w : World) : Calls Tryz.prog 63 #[.int .u8 c] w fun e w' => ∃ sl, e = .returned (.agg #[U (maskL c), .string (fsL c), I (sgL c), sl]) ∧ Below w.heap.size w w' ∧ PcS w' sl (psL c) := by
  rcases hc with rfl | rfl | rfl | rfl | rfl | rfl | rfl | rfl | rfl | rfl | rfl | rfl | rfl
  · exact shape_U w
  · exact shape_J w
  · exact shape_I w
  · exact shape_B w
  · exact shape_S w
  · exact shape_R w
  · exact shape_H w
  · exact shape_A w
  · exact shape_L w
  · exact shape_F w
  · exact shape_E w
  · exact shape_V w
  · exact shape_C w
theorem op_any (c : Nat) (hc : Letter c) (sl : Value) (name : Int) (x : BitVec 32) (w : World) (h : PcS w sl (psL c)) :
    Calls Tryz.prog 64 #[.agg #[U (maskL c), .string (fsL c), I (sgL c), sl], I name, U x] w fun e w' => e = .returned (opV name (rdL c x) (r1L c x) (r2L c x) (immL c x)) ∧ Below w.heap.size w w' := by
  rcases hc with rfl | rfl | rfl | rfl | rfl | rfl | rfl | rfl | rfl | rfl | rfl | rfl | rfl
  · exact opl_U sl name x w h
  · exact opl_J sl name x w h
  · exact opl_I sl name x w h
  · exact opl_B sl name x w h
  · exact opl_S sl name x w h
  · exact opl_R sl name x w h
  · exact opl_H sl name x w h
  · exact opl_A sl name x w h
  · exact opl_L sl name x w h
  · exact opl_F sl name x w h
  · exact opl_E sl name x w h
  · exact opl_V sl name x w h
  · exact opl_C sl name x w h
end Go.Proofs.YtancmkdmlghlpaaGreatDoor
