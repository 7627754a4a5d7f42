/- decode.rows and decode.Word: what they answer. No statement is proved here. -/
import Derived.Test.YtancmkdmlghlpaaGreatDoorShape
import Derived.Great.CaseRows
namespace Go.Proofs.YtancmkdmlghlpaaGreatDoor
open Go Go.RowKit
/-- The rows of all names: a pattern, and the letter of its form. -/
def rowsL : List (Nat × Nat) := [(55, 85), (23, 85), (111, 74), (103, 73), (99, 66), (4195, 66), (16483, 66), (20579, 66), (24675, 66), (28771, 66), (3, 73), (4099, 73), (8195, 73), (16387, 73), (20483, 73), (35, 83), (4131, 83), (8227, 83), (19, 73), (8211, 73), (12307, 73), (16403, 73), (24595, 73), (28691, 73), (4115, 72), (20499, 72), (1073762323, 72), (51, 82), (1073741875, 82), (4147, 82), (8243, 82), (12339, 82), (16435, 82), (20531, 82), (1073762355, 82), (24627, 82), (28723, 82), (33554483, 82), (33558579, 82), (33562675, 82), (33566771, 82), (33570867, 82), (33574963, 82), (33579059, 82), (33583155, 82), (268443695, 76), (402661423, 65), (134225967, 65), (8239, 65), (536879151, 65), (1610620975, 65), (1073750063, 65), (2147491887, 65), (2684362799, 65), (3221233711, 65), (3758104623, 65), (15, 70), (115, 69), (1048691, 69), (807403635, 69), (270532723, 69), (273678451, 69), (301990003, 86), (4211, 67), (8307, 67), (12403, 67), (20595, 67), (24691, 67), (28787, 67)]
def rcells (l : List (Nat × Nat)) : List Value := l.flatMap fun p => [.int .u32 (p.1 : Int), .int .u8 (p.2 : Int)]
def rowHit (x : BitVec 32) (p : Nat × Nat) : Bool := (x &&& maskL p.2) == BitVec.ofNat 32 p.1
/-- What a word says: the first row that it fits, by its place. -/
def findRow (x : BitVec 32) : List (Nat × Nat) → Nat → Option (Nat × Nat)
  | [], _ => none
  | p :: l, k => if rowHit x p then some (k, p.2) else findRow x l (k + 1)
def decodeF (x : BitVec 32) : Option (Nat × Nat) := findRow x rowsL 0
theorem rcells_get (ps : List (Nat × Nat)) (k : Nat) (h : k < ps.length) : (rcells ps)[k * 2]? = some (.int .u32 (ps[k].1 : Int)) ∧ (rcells ps)[k * 2 + 1]? = some (.int .u8 (ps[k].2 : Int)) := by
  induction ps generalizing k with
  | nil => simp at h
  | cons p ps ih =>
    cases k with
    | zero => simp [rcells]
    | succ k =>
      have := ih k (by simpa using h)
      simp only [rcells, List.flatMap_cons, List.getElem_cons_succ] at this ⊢
      rw [show (k + 1) * 2 = k * 2 + 2 by omega, show k * 2 + 2 + 1 = k * 2 + 1 + 2 by omega]
      simpa using this
theorem rowsL_ok : ∀ p ∈ rowsL, Letter p.2 ∧ p.1 < 4294967296 := by
  have h : ∀ p ∈ rowsL, (p.2 == 85 || p.2 == 74 || p.2 == 73 || p.2 == 66 || p.2 == 83 || p.2 == 82 || p.2 == 72 || p.2 == 65 || p.2 == 76 || p.2 == 70 || p.2 == 69 || p.2 == 86 || p.2 == 67) = true ∧ p.1 < 4294967296 := by decide
  intro p hp
  have := h p hp
  refine ⟨?_, this.2⟩
  have h1 := this.1
  simp only [Bool.or_eq_true, beq_iff_eq] at h1
  unfold Letter
  omega
theorem findRow_skip (x : BitVec 32) (l : List (Nat × Nat)) (m : Nat) : ∀ k, k ≤ l.length → (∀ j (_ : j < k) (h' : j < l.length), rowHit x l[j] = false) → findRow x l m = findRow x (l.drop k) (m + k) := by
  induction l generalizing m with
  | nil => intro k hk _; simp at hk; subst hk; rfl
  | cons p l ih =>
    intro k hk h
    cases k with
    | zero => rfl
    | succ k =>
      have h0 := h 0 (by omega) (by simp)
      simp only [List.getElem_cons_zero] at h0
      rw [findRow, h0]
      simp only [Bool.false_eq_true, if_false, List.drop_succ_cons]
      rw [ih (m + 1) k (by simpa using hk) (fun j hj hj' => by have := h (j + 1) (by omega) (by simpa using hj'); simpa using this)]
      congr 1; omega
theorem decodeF_hit (x : BitVec 32) (k : Nat) (hk : k < rowsL.length) (h : ∀ j (_ : j < k) (h' : j < rowsL.length), rowHit x rowsL[j] = false) (hh : rowHit x rowsL[k] = true) : decodeF x = some (k, rowsL[k].2) := by
  unfold decodeF
  rw [findRow_skip x rowsL 0 k (by omega) h, List.drop_eq_getElem_cons hk, findRow, hh]
  simp
theorem decodeF_none (x : BitVec 32) (h : ∀ j (h' : j < rowsL.length), rowHit x rowsL[j] = false) : decodeF x = none := by
  unfold decodeF
  rw [findRow_skip x rowsL 0 rowsL.length (by omega) (fun j _ h' => h j h'), List.drop_length]; rfl
@[go_sem] theorem u_beq_lit (a : BitVec 32) (n : Nat) (h : n < 4294967296) : (u a == (no_index (OfNat.ofNat n : Int))) = (a == BitVec.ofNat 32 n) := by
  rw [Bool.eq_iff_iff, beq_iff_eq, beq_iff_eq, ← u_inj, u_lit, Int.emod_eq_of_lt (by exact Int.natCast_nonneg n) (by have : (OfNat.ofNat n : Int) = (n : Int) := rfl; omega)]
@[go_sem] theorem u_beq_nat (a : BitVec 32) (n : Nat) (h : n < 4294967296) : (u a == (n : Int)) = (a == BitVec.ofNat 32 n) := u_beq_lit a n h
theorem wpList_val {P : Program} {ops : Array Oper} {Q : Exit → Act → World → Prop} {rest : List Oper} {o : Oper} {a : Act} {w : World} {v : Value} (hg : o.guard = none)
    (h : (execOp a.eval o).run P w = .ok (.value v) w) (k : wpList P ops Q rest (a.put o.dst v) w) : wpList P ops Q (o :: rest) a w :=
  wpList_plain hg fun K hK => by unfold Oper.wp; rw [h]; exact hK _ _ k
theorem run_build120 (a : Act) (d : Option Tmp) (x y : Int) (ty : TypeId) (pos : String) (after : Array Edge) (g : Option (Nat × Bool)) (w : World) :
    (execOp a.eval ⟨d, .build (/-T-/ 120) #[(0, .const (.int .u32 x)), (1, .const (.int .u8 y))], ty, pos, after, g⟩).run Tryz.prog w = .ok (.value (.agg #[.int .u32 x, .int .u8 y])) w := by kernel_rfl
theorem evs_of_eq {a : Act} {vs : List Value} {f : Nat → Nat} (h : (List.range vs.length).map (fun i => a.eval (.tmp (f i))) = vs) : ∀ i (h : i < vs.length), a.eval (.tmp (f i)) = vs[i] := by
  intro i hi
  have := congrArg (fun l => l[i]?) h
  simpa [hi] using this
def rowV (p : Nat × Nat) : Value := .agg #[.int .u32 (p.1 : Int), .int .u8 (p.2 : Int)]
theorem rcells_eq : (rowsL.map rowV).flatMap (fun v => v.cells.toList) = rcells rowsL := by
  unfold rcells; rw [List.flatMap_map]; rfl
set_option maxRecDepth 100000 in
theorem rows_any (w : World) : Calls Tryz.prog 62 #[] w fun e w' => ∃ pb, e = .returned (.slice (some ⟨pb, 0, none⟩) 69 69) ∧ w'.heap[pb]? = some (.cells (rcells rowsL).toArray (/-T-/ 120) (0, 0)) ∧ Below w.heap.size w w' := by
  go_enter Tryz.func62, Tryz.ntmps62
  refine wp_seq (wp_region_lit ?_)
  refine wpList_val (by rfl) (by rfl) ?_
  refine wpList_nil ?_
  simp only [Exit.then]
  refine wp_seq (wp_region_lit ?_)
  iterate 69 refine wpList_val (by rfl) (run_build120 _ _ _ _ _ _ _ _ _) ?_
  refine Go.Great.wpList_buildRows (by rfl) (/-T-/ 117) (/-T-/ 120) _ 2 (rowsL.map rowV) (by rfl) (fun i => i + 1) _ rfl _ rfl Tryz.underlying117 (by kernel_rfl) (by kernel_rfl) (by decide) (by decide) (by decide) (by kernel_rfl) ?_ (evs_of_eq (by kernel_rfl)) ?_
  · intro v hv; simp only [List.mem_map] at hv; obtain ⟨p, _, rfl⟩ := hv; rfl
  · rw [rcells_eq]
    refine wpList_val (by rfl) (by rfl) ?_
    refine wpList_nil ?_
    simp only [Exit.then]
    refine wp_ret ?_
    exact bodyPost_ret (results_tmp rfl _ _ _) rfl ⟨w.heap.size, by kernel_rfl, last_obj w _, (Below.refl _ _).alloc (Nat.le_refl _) _⟩
end Go.Proofs.YtancmkdmlghlpaaGreatDoor
