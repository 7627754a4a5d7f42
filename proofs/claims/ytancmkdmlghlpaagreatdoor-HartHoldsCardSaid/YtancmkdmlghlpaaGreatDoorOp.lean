/- decode.form.op: what it answers. No statement is proved here. -/
import Derived.Test.YtancmkdmlghlpaaGreatDoorDec
import Derived.Test.YtancmkdmlghlpaaGreatDoorNum
import Derived.Test.YtancmkdmlghlpaaGreatDoorMaps
namespace Go.Proofs.YtancmkdmlghlpaaGreatDoor
open Go Go.RowKit

section
variable (w : World) (v0 v1 v2 : Value) (r : Nat)
@[go_sem] theorem run_ins403_0 (h : r = w.heap.size) : Sem.run Tryz.prog (Instr.mapUpdate (/-T-/ 168) (.map (some r)) (.string ⟨#[100]⟩) v0) (w.alloc (.map #[] 0)) = .ok () (w.alloc (.map #[⟨.string ⟨#[100]⟩, v0, 0⟩] 1)) := by
  subst h
  rw [run_mapUpdate_new (w.alloc (.map #[] 0)) (/-T-/ 168) _ _ _ #[] 0 _ v0 Tryz.underlying168 (by kernel_rfl) (last_obj w _) (by rfl), setO_last]; rfl
@[go_sem] theorem run_ins403_1 (h : r = w.heap.size) : Sem.run Tryz.prog (Instr.mapUpdate (/-T-/ 168) (.map (some r)) (.string ⟨#[49]⟩) v1) (w.alloc (.map #[⟨.string ⟨#[100]⟩, v0, 0⟩] 1)) = .ok () (w.alloc (.map #[⟨.string ⟨#[100]⟩, v0, 0⟩, ⟨.string ⟨#[49]⟩, v1, 1⟩] 2)) := by
  subst h
  rw [run_mapUpdate_new (w.alloc (.map #[⟨.string ⟨#[100]⟩, v0, 0⟩] 1)) (/-T-/ 168) _ _ _ _ 1 _ v1 Tryz.underlying168 (by kernel_rfl) (last_obj w _) (by rfl), setO_last]; rfl
@[go_sem] theorem run_ins403_2 (h : r = w.heap.size) : Sem.run Tryz.prog (Instr.mapUpdate (/-T-/ 168) (.map (some r)) (.string ⟨#[50]⟩) v2) (w.alloc (.map #[⟨.string ⟨#[100]⟩, v0, 0⟩, ⟨.string ⟨#[49]⟩, v1, 1⟩] 2)) = .ok () (w.alloc (.map (es3 (.string ⟨#[100]⟩) (.string ⟨#[49]⟩) (.string ⟨#[50]⟩) v0 v1 v2) 3)) := by
  subst h
  rw [run_mapUpdate_new (w.alloc _) (/-T-/ 168) _ _ _ _ 2 _ v2 Tryz.underlying168 (by kernel_rfl) (last_obj w _) (by rfl), setO_last]; rfl
@[go_sem] theorem run_ins404_0 (h : r = w.heap.size) : Sem.run Tryz.prog (Instr.mapUpdate (/-T-/ 170) (.map (some r)) (.string ⟨#[100]⟩) v0) (w.alloc (.map #[] 0)) = .ok () (w.alloc (.map #[⟨.string ⟨#[100]⟩, v0, 0⟩] 1)) := by
  subst h
  rw [run_mapUpdate_new (w.alloc (.map #[] 0)) (/-T-/ 170) _ _ _ #[] 0 _ v0 Tryz.underlying170 (by kernel_rfl) (last_obj w _) (by rfl), setO_last]; rfl
@[go_sem] theorem run_ins404_1 (h : r = w.heap.size) : Sem.run Tryz.prog (Instr.mapUpdate (/-T-/ 170) (.map (some r)) (.string ⟨#[49]⟩) v1) (w.alloc (.map #[⟨.string ⟨#[100]⟩, v0, 0⟩] 1)) = .ok () (w.alloc (.map #[⟨.string ⟨#[100]⟩, v0, 0⟩, ⟨.string ⟨#[49]⟩, v1, 1⟩] 2)) := by
  subst h
  rw [run_mapUpdate_new (w.alloc (.map #[⟨.string ⟨#[100]⟩, v0, 0⟩] 1)) (/-T-/ 170) _ _ _ _ 1 _ v1 Tryz.underlying170 (by kernel_rfl) (last_obj w _) (by rfl), setO_last]; rfl
@[go_sem] theorem run_ins404_2 (h : r = w.heap.size) : Sem.run Tryz.prog (Instr.mapUpdate (/-T-/ 170) (.map (some r)) (.string ⟨#[50]⟩) v2) (w.alloc (.map #[⟨.string ⟨#[100]⟩, v0, 0⟩, ⟨.string ⟨#[49]⟩, v1, 1⟩] 2)) = .ok () (w.alloc (.map (es3 (.string ⟨#[100]⟩) (.string ⟨#[49]⟩) (.string ⟨#[50]⟩) v0 v1 v2) 3)) := by
  subst h
  rw [run_mapUpdate_new (w.alloc _) (/-T-/ 170) _ _ _ _ 2 _ v2 Tryz.underlying170 (by kernel_rfl) (last_obj w _) (by rfl), setO_last]; rfl
@[go_sem] theorem run_look404_0 (h : r = w.heap.size) : Sem.run Tryz.prog (Instr.lookup (/-T-/ 170) (.map (some r)) (.string ⟨#[100]⟩) false) (w.alloc (.map (es3 (.string ⟨#[100]⟩) (.string ⟨#[49]⟩) (.string ⟨#[50]⟩) v0 v1 v2) 3)) = .ok v0 (w.alloc (.map (es3 (.string ⟨#[100]⟩) (.string ⟨#[49]⟩) (.string ⟨#[50]⟩) v0 v1 v2) 3)) := by
  subst h
  rw [run_lookup_string (w.alloc _) (/-T-/ 170) _ _ _ _ 3 _ 0 v0 Tryz.underlying170 (by kernel_rfl) (last_obj w _) (by rfl)]
@[go_sem] theorem run_look404_1 (h : r = w.heap.size) : Sem.run Tryz.prog (Instr.lookup (/-T-/ 170) (.map (some r)) (.string ⟨#[49]⟩) false) (w.alloc (.map (es3 (.string ⟨#[100]⟩) (.string ⟨#[49]⟩) (.string ⟨#[50]⟩) v0 v1 v2) 3)) = .ok v1 (w.alloc (.map (es3 (.string ⟨#[100]⟩) (.string ⟨#[49]⟩) (.string ⟨#[50]⟩) v0 v1 v2) 3)) := by
  subst h
  rw [run_lookup_string (w.alloc _) (/-T-/ 170) _ _ _ _ 3 _ 1 v1 Tryz.underlying170 (by kernel_rfl) (last_obj w _) (by rfl)]
@[go_sem] theorem run_look404_2 (h : r = w.heap.size) : Sem.run Tryz.prog (Instr.lookup (/-T-/ 170) (.map (some r)) (.string ⟨#[50]⟩) false) (w.alloc (.map (es3 (.string ⟨#[100]⟩) (.string ⟨#[49]⟩) (.string ⟨#[50]⟩) v0 v1 v2) 3)) = .ok v2 (w.alloc (.map (es3 (.string ⟨#[100]⟩) (.string ⟨#[49]⟩) (.string ⟨#[50]⟩) v0 v1 v2) 3)) := by
  subst h
  rw [run_lookup_string (w.alloc _) (/-T-/ 170) _ _ _ _ 3 _ 2 v2 Tryz.underlying170 (by kernel_rfl) (last_obj w _) (by rfl)]
@[go_sem] theorem run_range403 (es : Array MapEntry) (c : Nat) (h : r = w.heap.size) : Sem.run Tryz.prog (Instr.range (/-T-/ 168) (.map (some r))) (w.alloc (.map es c)) =
    .ok (.pointer (some ⟨w.heap.size + 1, 0, none⟩)) ((w.alloc (.map es c)).alloc (.mapIter (some r) c #[] c)) := by
  subst h
  rw [run_range_map (w.alloc (.map es c)) (/-T-/ 168) _ _ w.heap.size es c Tryz.underlying168 (last_obj w _)]
  simp
attribute [go_sem] run_makeMap
end
def leftM (w : World) (r : Nat) : Nat := match w.heap[r]? with | some (.mapIter _ _ l _) => 3 - l.size | _ => 0
theorem leftM_eq {w : World} {r : Nat} {a : Option Nat} {b : Nat} {l : Array Nat} {c : Nat} (h : w.heap[r]? = some (.mapIter a b l c)) : leftM w r = 3 - l.size := by unfold leftM; rw [h]
abbrev opV (name rd r1 r2 : Int) (imm : BitVec 32) : Value := .agg #[I name, I rd, I r1, I r2, U imm]
def pick3 (l : Array Nat) (i : Nat) (h : Bool) (x : BitVec 32) (n : Nat) : Int := if l.contains i && h then u (fieldF x n 5) else 0
theorem pick3_other (l : Array Nat) (i j : Nat) (h : Bool) (x : BitVec 32) (n : Nat) (hij : i ≠ j) : pick3 (l.push j) i h x n = pick3 l i h x n := by
  unfold pick3
  have : (l.push j).contains i = l.contains i := by rw [Array.contains_push]; simp [hij]
  rw [this]
theorem pick3_self (l : Array Nat) (i : Nat) (x : BitVec 32) (n : Nat) : pick3 (l.push i) i true x n = u (fieldF x n 5) := by
  unfold pick3; simp
theorem pick3_none (l : Array Nat) (i : Nat) (x : BitVec 32) (n : Nat) : pick3 l i false x n = 0 := by
  unfold pick3; simp
theorem k30 (a b c : Value) : key3 a b c 0 = a := rfl
theorem k31 (a b c : Value) : key3 a b c 1 = b := rfl
theorem k32 (a b c : Value) : key3 a b c 2 = c := rfl
theorem seen3 {l : Array Nat} (h : Seen l) (hs : l.size = 3) : l.contains 0 = true ∧ l.contains 1 = true ∧ l.contains 2 = true := by
  rcases h with rfl | rfl | rfl | rfl | rfl | rfl | rfl | rfl | rfl | rfl | rfl | rfl | rfl | rfl | rfl | rfl <;> simp at hs ⊢
set_option maxRecDepth 100000 in
theorem op_d (mask sg sl : Value) (name : Int) (x v : BitVec 32) (w : World)
    (hnum : ∀ wr, Below w.heap.size w wr → Calls Tryz.prog 105 #[.agg #[mask, (.string ⟨#[100]⟩), sg, sl], U x] wr fun e w' => e = .returned (U v) ∧ Below wr.heap.size wr w') :
  Calls Tryz.prog 64 #[.agg #[mask, (.string ⟨#[100]⟩), sg, sl], I name, U x] w fun e w' => e = .returned (opV name (u (fieldF x 7 5)) 0 0 v) ∧ Below w.heap.size w w' := by
  have H := Lib.hid hnum; clear hnum
  go_enter Tryz.func64, Tryz.ntmps64
  go_wp2_with (go_at_call 105; refine (H.out _ (((Below.refl _ _).alloc (Nat.le_refl _) _).alloc (by simp) _)).mono ?_; rintro e w1 ⟨rfl, hb⟩)
  have hz : w.heap.size + 1 + 1 ≤ w1.heap.size := by have := hb.size; simpa using this
  have f0 : w1.heap[w.heap.size]? = some (.cells #[mask, (.string ⟨#[100]⟩), sg, sl] (/-T-/ 123)) := by
    rw [hb.block _ (by simp; omega), Below.heap_alloc _ _ _ (by simp)]; exact last_obj w _
  have f1 : w1.heap[w.heap.size + 1]? = some (.cells #[I 0, I 0, I 0, I 0, .int .u32 0] (/-T-/ 68)) := by
    rw [hb.block _ (by simp)]; have := last_obj (w.alloc (.cells #[mask, (.string ⟨#[100]⟩), sg, sl] (/-T-/ 123))) (.cells #[I 0, I 0, I 0, I 0, .int .u32 0] (/-T-/ 68)); simpa using this
  have hB : Below w.heap.size w w1 := (((Below.refl _ _).alloc (Nat.le_refl _) _).alloc (by simp) _).trans (hb.mono (by simp; omega))
  have HB := Lib.hid hB
  have F0 := Lib.hid f0
  have F1 := Lib.hid f1
  clear hB hb f0 f1
  go_wp2
  go_loopw [8, 9] (fun _ _ wr => ∃ l, Seen l ∧ wr.heap[w1.heap.size + 1 + 1]? = some (.mapIter (some (w1.heap.size + 1)) 3 l 3)
      ∧ wr.heap[w1.heap.size + 1]? = some (.map (es3 (.string ⟨#[100]⟩) (.string ⟨#[49]⟩) (.string ⟨#[50]⟩) (.pointer (some ⟨w1.heap.size, 1, none⟩)) (.pointer (some ⟨w1.heap.size, 2, none⟩)) (.pointer (some ⟨w1.heap.size, 3, none⟩))) 3)
      ∧ wr.heap[w1.heap.size]? = some (.cells #[I name, I (pick3 l 0 true x 7), I (pick3 l 1 false x 15), I (pick3 l 2 false x 20), U v] (/-T-/ 68)) ∧ Below w1.heap.size w1 wr)
    (fun _ _ wr => leftM wr (w1.heap.size + 1 + 1))
  case atStart =>
    refine ⟨#[], by simp [Seen], ?_, ?_, ?_, ?_⟩
    · exact last_obj' _ (by simp)
    · exact old_obj _ (last_obj' _ (by simp))
    · have h := old_obj (.mapIter (some (w1.heap.size + 1)) 3 #[] 3) (old_obj (.map (es3 (.string ⟨#[100]⟩) (.string ⟨#[49]⟩) (.string ⟨#[50]⟩) (.pointer (some ⟨w1.heap.size, 1, none⟩)) (.pointer (some ⟨w1.heap.size, 2, none⟩)) (.pointer (some ⟨w1.heap.size, 3, none⟩))) 3) (last_obj w1 (.cells #[I name, I 0, I 0, I 0, U v] (/-T-/ 68))))
      rw [h]; simp [pick3]
    · exact (((Below.refl _ _).alloc (Nat.le_refl _) _).alloc (by simp) _).alloc (by simp; omega) _
  case round =>
    obtain ⟨l, hl, hr, hm, ho, hb⟩ := hrel
    have f0 : wr.heap[w.heap.size]? = some (.cells #[mask, (.string ⟨#[100]⟩), sg, sl] (/-T-/ 123)) := hb.at (by omega) F0.out
    have f1 : wr.heap[w.heap.size + 1]? = some (.cells #[I 0, I 0, I 0, I 0, .int .u32 0] (/-T-/ 68)) := hb.at (by omega) F1.out
    have hN := run_next3 (P := Tryz.prog) wr (w1.heap.size + 1) (w1.heap.size + 1 + 1) _ _ _ _ _ _ 0 l hl hm hr
    rcases hN with ⟨hs, hrun⟩ | ⟨i, n, hi, hli, hS, hs, hrun⟩
    · have co := fun j => cell_of_row wr w1.heap.size j _ _ _ ho
      have cf := fun j => cell_of_row wr (w.heap.size + 1) j _ _ _ f1
      have zf := fun j => frozen_of_row wr (w.heap.size + 1) j _ _ f1
      have HO := Lib.hid ho
      have HBr := Lib.hid hb
      have FF1 := Lib.hid f1
      clear hb f0 f1 hr hm ho
      obtain ⟨s0, s1, s2⟩ := seen3 hl hs
      go_wp2
      refine bodyPost_ret (results_cell_row rfl _ _ (w.heap.size + 1) (/-T-/ 68) _ (0, 0) _ rfl
        (heap_setCell_same _ _ 4 _ _ _ (heap_setCell_same _ _ 3 _ _ _ (heap_setCell_same _ _ 2 _ _ _ (heap_setCell_same _ _ 1 _ _ _ (heap_setCell_same _ _ 0 _ _ _ FF1.out)))))
        Tryz.underlying68 rfl (by kernel_rfl)) rfl ⟨?_, ?_⟩
      · simp only [pick3, s0, s1, s2, Bool.and_true, Bool.and_false, if_true, Bool.false_eq_true, if_false]; rfl
      · exact (HB.out.trans (HBr.out.mono (by omega))).setCell (by simp) _ |>.setCell (by simp) _ |>.setCell (by simp) _ |>.setCell (by simp) _ |>.setCell (by simp) _
    · have key : ∃ w2, Sem.run Tryz.prog (Instr.next (.pointer (some ⟨w1.heap.size + 1 + 1, 0, none⟩)) false 0) wr = .ok (.tuple #[.bool true, key3 (.string ⟨#[100]⟩) (.string ⟨#[49]⟩) (.string ⟨#[50]⟩) i, key3 (.pointer (some ⟨w1.heap.size, 1, none⟩)) (.pointer (some ⟨w1.heap.size, 2, none⟩)) (.pointer (some ⟨w1.heap.size, 3, none⟩)) i]) w2
          ∧ w2.heap[w1.heap.size + 1 + 1]? = some (.mapIter (some (w1.heap.size + 1)) 3 (l.push i) 3)
          ∧ w2.heap[w1.heap.size + 1]? = some (.map (es3 (.string ⟨#[100]⟩) (.string ⟨#[49]⟩) (.string ⟨#[50]⟩) (.pointer (some ⟨w1.heap.size, 1, none⟩)) (.pointer (some ⟨w1.heap.size, 2, none⟩)) (.pointer (some ⟨w1.heap.size, 3, none⟩))) 3)
          ∧ w2.heap[w1.heap.size]? = some (.cells #[I name, I (pick3 l 0 true x 7), I (pick3 l 1 false x 15), I (pick3 l 2 false x 20), U v] (/-T-/ 68))
          ∧ w2.heap[w.heap.size]? = some (.cells #[mask, (.string ⟨#[100]⟩), sg, sl] (/-T-/ 123)) ∧ Below w1.heap.size w1 w2 := by
        refine ⟨_, hrun, heap_setO_self (wr.drewN n) _ _ _ hr, ?_, ?_, ?_, (hb.drewN n).setO (by omega) _⟩
        · rw [heap_setO0 _ _ _ _ (by omega)]; exact hm
        · rw [heap_setO0 _ _ _ _ (by omega)]; exact ho
        · rw [heap_setO0 _ _ _ _ (by omega)]; exact f0
      clear hrun f0 f1 ho hb
      obtain ⟨w2, hrun, hr2, hm2, ho2, f2, hb2⟩ := key
      have hen := run_entry3 (P := Tryz.prog) w2 (w1.heap.size + 1) (w1.heap.size + 1 + 1) _ _ _ _ _ _ i hi l hm2 hr2
      have hz2 : w1.heap.size + 1 + 1 < w2.heap.size := lt_of_obj hr2
      have hz3 : w1.heap.size < w2.heap.size := by omega
      have hz4 : w1.heap.size < w2.heap.size + 1 := by omega
      have cf := fun j => cell_of_row w2 w.heap.size j _ _ _ f2
      have co := fun j => cell_of_row w2 w1.heap.size j _ _ _ ho2
      have zo := fun j => frozen_of_row w2 w1.heap.size j _ _ ho2
      have HR := Lib.hid hr2
      have HM := Lib.hid hm2
      have HO := Lib.hid ho2
      have HB2 := Lib.hid hb2
      have HRold := Lib.hid hr
      have hsz : (l.push i).size = l.size + 1 := Array.size_push ..
      have HSZ := Lib.hid hsz
      clear hr2 hm2 ho2 f2 hb2 hr hm hsz
      have lt3 : i = 0 ∨ i = 1 ∨ i = 2 := by omega
      rcases lt3 with rfl | rfl | rfl
      · simp only [k30] at hrun hen
        go_wp2_with (first | (go_at_call 106; refine (has_d_d _ _ _ _).mono ?_; rintro e w' ⟨rfl, rfl⟩) | (go_at_call 107; refine (reg_any _ _ _ (by omega) (by omega)).mono ?_; rintro e w' ⟨rfl, rfl⟩))
        go_roundw
        case rel =>
          refine ⟨l.push 0, hS, old_obj _ (old_obj _ ?_), old_obj _ (old_obj _ ?_), old_obj _ (old_obj _ ?_), ((HB2.out.setCell (Nat.le_refl _) _).alloc (by simp; omega) _).alloc (by simp; omega) _⟩
          · rw [Below.heap_setCell _ _ _ _ (by dsimp only; omega)]; exact HR.out
          · rw [Below.heap_setCell _ _ _ _ (by dsimp only; omega)]; exact HM.out
          · rw [heap_setCell_same _ _ 1 _ _ _ HO.out]; simp only [pick3_none, pick3_self, pick3_other l 1 0 _ _ _ (by decide), pick3_other l 2 0 _ _ _ (by decide)]; rfl
        case measure =>
          rw [leftM_eq HRold.out, leftM_eq (old_obj _ (old_obj _ (by rw [Below.heap_setCell _ _ _ _ (by dsimp only; omega)]; exact HR.out)))]
          have := HSZ.out
          omega
      · simp only [k31] at hrun hen
        go_wp2_with (go_at_call 106; refine (has_d_1 _ _ _ _).mono ?_; rintro e w' ⟨rfl, rfl⟩)
        go_roundw
        case rel =>
          refine ⟨l.push 1, hS, old_obj _ HR.out, old_obj _ HM.out, old_obj _ ?_, HB2.out.alloc (by omega) _⟩
          rw [HO.out]; simp only [pick3_none, pick3_other l 0 1 _ _ _ (by decide), pick3_other l 2 1 _ _ _ (by decide)]
        case measure =>
          rw [leftM_eq HRold.out, leftM_eq (old_obj _ HR.out)]
          have := HSZ.out
          omega
      · simp only [k32] at hrun hen
        go_wp2_with (go_at_call 106; refine (has_d_2 _ _ _ _).mono ?_; rintro e w' ⟨rfl, rfl⟩)
        go_roundw
        case rel =>
          refine ⟨l.push 2, hS, old_obj _ HR.out, old_obj _ HM.out, old_obj _ ?_, HB2.out.alloc (by omega) _⟩
          rw [HO.out]; simp only [pick3_none, pick3_other l 0 2 _ _ _ (by decide), pick3_other l 1 2 _ _ _ (by decide)]
        case measure =>
          rw [leftM_eq HRold.out, leftM_eq (old_obj _ HR.out)]
          have := HSZ.out
          omega
set_option maxRecDepth 100000 in
theorem op_d1 (mask sg sl : Value) (name : Int) (x v : BitVec 32) (w : World)
    (hnum : ∀ wr, Below w.heap.size w wr → Calls Tryz.prog 105 #[.agg #[mask, (.string ⟨#[100, 49]⟩), sg, sl], U x] wr fun e w' => e = .returned (U v) ∧ Below wr.heap.size wr w') :
  Calls Tryz.prog 64 #[.agg #[mask, (.string ⟨#[100, 49]⟩), sg, sl], I name, U x] w fun e w' => e = .returned (opV name (u (fieldF x 7 5)) (u (fieldF x 15 5)) 0 v) ∧ Below w.heap.size w w' := by
  have H := Lib.hid hnum; clear hnum
  go_enter Tryz.func64, Tryz.ntmps64
  go_wp2_with (go_at_call 105; refine (H.out _ (((Below.refl _ _).alloc (Nat.le_refl _) _).alloc (by simp) _)).mono ?_; rintro e w1 ⟨rfl, hb⟩)
  have hz : w.heap.size + 1 + 1 ≤ w1.heap.size := by have := hb.size; simpa using this
  have f0 : w1.heap[w.heap.size]? = some (.cells #[mask, (.string ⟨#[100, 49]⟩), sg, sl] (/-T-/ 123)) := by
    rw [hb.block _ (by simp; omega), Below.heap_alloc _ _ _ (by simp)]; exact last_obj w _
  have f1 : w1.heap[w.heap.size + 1]? = some (.cells #[I 0, I 0, I 0, I 0, .int .u32 0] (/-T-/ 68)) := by
    rw [hb.block _ (by simp)]; have := last_obj (w.alloc (.cells #[mask, (.string ⟨#[100, 49]⟩), sg, sl] (/-T-/ 123))) (.cells #[I 0, I 0, I 0, I 0, .int .u32 0] (/-T-/ 68)); simpa using this
  have hB : Below w.heap.size w w1 := (((Below.refl _ _).alloc (Nat.le_refl _) _).alloc (by simp) _).trans (hb.mono (by simp; omega))
  have HB := Lib.hid hB
  have F0 := Lib.hid f0
  have F1 := Lib.hid f1
  clear hB hb f0 f1
  go_wp2
  go_loopw [8, 9] (fun _ _ wr => ∃ l, Seen l ∧ wr.heap[w1.heap.size + 1 + 1]? = some (.mapIter (some (w1.heap.size + 1)) 3 l 3)
      ∧ wr.heap[w1.heap.size + 1]? = some (.map (es3 (.string ⟨#[100]⟩) (.string ⟨#[49]⟩) (.string ⟨#[50]⟩) (.pointer (some ⟨w1.heap.size, 1, none⟩)) (.pointer (some ⟨w1.heap.size, 2, none⟩)) (.pointer (some ⟨w1.heap.size, 3, none⟩))) 3)
      ∧ wr.heap[w1.heap.size]? = some (.cells #[I name, I (pick3 l 0 true x 7), I (pick3 l 1 true x 15), I (pick3 l 2 false x 20), U v] (/-T-/ 68)) ∧ Below w1.heap.size w1 wr)
    (fun _ _ wr => leftM wr (w1.heap.size + 1 + 1))
  case atStart =>
    refine ⟨#[], by simp [Seen], ?_, ?_, ?_, ?_⟩
    · exact last_obj' _ (by simp)
    · exact old_obj _ (last_obj' _ (by simp))
    · have h := old_obj (.mapIter (some (w1.heap.size + 1)) 3 #[] 3) (old_obj (.map (es3 (.string ⟨#[100]⟩) (.string ⟨#[49]⟩) (.string ⟨#[50]⟩) (.pointer (some ⟨w1.heap.size, 1, none⟩)) (.pointer (some ⟨w1.heap.size, 2, none⟩)) (.pointer (some ⟨w1.heap.size, 3, none⟩))) 3) (last_obj w1 (.cells #[I name, I 0, I 0, I 0, U v] (/-T-/ 68))))
      rw [h]; simp [pick3]
    · exact (((Below.refl _ _).alloc (Nat.le_refl _) _).alloc (by simp) _).alloc (by simp; omega) _
  case round =>
    obtain ⟨l, hl, hr, hm, ho, hb⟩ := hrel
    have f0 : wr.heap[w.heap.size]? = some (.cells #[mask, (.string ⟨#[100, 49]⟩), sg, sl] (/-T-/ 123)) := hb.at (by omega) F0.out
    have f1 : wr.heap[w.heap.size + 1]? = some (.cells #[I 0, I 0, I 0, I 0, .int .u32 0] (/-T-/ 68)) := hb.at (by omega) F1.out
    have hN := run_next3 (P := Tryz.prog) wr (w1.heap.size + 1) (w1.heap.size + 1 + 1) _ _ _ _ _ _ 0 l hl hm hr
    rcases hN with ⟨hs, hrun⟩ | ⟨i, n, hi, hli, hS, hs, hrun⟩
    · have co := fun j => cell_of_row wr w1.heap.size j _ _ _ ho
      have cf := fun j => cell_of_row wr (w.heap.size + 1) j _ _ _ f1
      have zf := fun j => frozen_of_row wr (w.heap.size + 1) j _ _ f1
      have HO := Lib.hid ho
      have HBr := Lib.hid hb
      have FF1 := Lib.hid f1
      clear hb f0 f1 hr hm ho
      obtain ⟨s0, s1, s2⟩ := seen3 hl hs
      go_wp2
      refine bodyPost_ret (results_cell_row rfl _ _ (w.heap.size + 1) (/-T-/ 68) _ (0, 0) _ rfl
        (heap_setCell_same _ _ 4 _ _ _ (heap_setCell_same _ _ 3 _ _ _ (heap_setCell_same _ _ 2 _ _ _ (heap_setCell_same _ _ 1 _ _ _ (heap_setCell_same _ _ 0 _ _ _ FF1.out)))))
        Tryz.underlying68 rfl (by kernel_rfl)) rfl ⟨?_, ?_⟩
      · simp only [pick3, s0, s1, s2, Bool.and_true, Bool.and_false, if_true, Bool.false_eq_true, if_false]; rfl
      · exact (HB.out.trans (HBr.out.mono (by omega))).setCell (by simp) _ |>.setCell (by simp) _ |>.setCell (by simp) _ |>.setCell (by simp) _ |>.setCell (by simp) _
    · have key : ∃ w2, Sem.run Tryz.prog (Instr.next (.pointer (some ⟨w1.heap.size + 1 + 1, 0, none⟩)) false 0) wr = .ok (.tuple #[.bool true, key3 (.string ⟨#[100]⟩) (.string ⟨#[49]⟩) (.string ⟨#[50]⟩) i, key3 (.pointer (some ⟨w1.heap.size, 1, none⟩)) (.pointer (some ⟨w1.heap.size, 2, none⟩)) (.pointer (some ⟨w1.heap.size, 3, none⟩)) i]) w2
          ∧ w2.heap[w1.heap.size + 1 + 1]? = some (.mapIter (some (w1.heap.size + 1)) 3 (l.push i) 3)
          ∧ w2.heap[w1.heap.size + 1]? = some (.map (es3 (.string ⟨#[100]⟩) (.string ⟨#[49]⟩) (.string ⟨#[50]⟩) (.pointer (some ⟨w1.heap.size, 1, none⟩)) (.pointer (some ⟨w1.heap.size, 2, none⟩)) (.pointer (some ⟨w1.heap.size, 3, none⟩))) 3)
          ∧ w2.heap[w1.heap.size]? = some (.cells #[I name, I (pick3 l 0 true x 7), I (pick3 l 1 true x 15), I (pick3 l 2 false x 20), U v] (/-T-/ 68))
          ∧ w2.heap[w.heap.size]? = some (.cells #[mask, (.string ⟨#[100, 49]⟩), sg, sl] (/-T-/ 123)) ∧ Below w1.heap.size w1 w2 := by
        refine ⟨_, hrun, heap_setO_self (wr.drewN n) _ _ _ hr, ?_, ?_, ?_, (hb.drewN n).setO (by omega) _⟩
        · rw [heap_setO0 _ _ _ _ (by omega)]; exact hm
        · rw [heap_setO0 _ _ _ _ (by omega)]; exact ho
        · rw [heap_setO0 _ _ _ _ (by omega)]; exact f0
      clear hrun f0 f1 ho hb
      obtain ⟨w2, hrun, hr2, hm2, ho2, f2, hb2⟩ := key
      have hen := run_entry3 (P := Tryz.prog) w2 (w1.heap.size + 1) (w1.heap.size + 1 + 1) _ _ _ _ _ _ i hi l hm2 hr2
      have hz2 : w1.heap.size + 1 + 1 < w2.heap.size := lt_of_obj hr2
      have hz3 : w1.heap.size < w2.heap.size := by omega
      have hz4 : w1.heap.size < w2.heap.size + 1 := by omega
      have cf := fun j => cell_of_row w2 w.heap.size j _ _ _ f2
      have co := fun j => cell_of_row w2 w1.heap.size j _ _ _ ho2
      have zo := fun j => frozen_of_row w2 w1.heap.size j _ _ ho2
      have HR := Lib.hid hr2
      have HM := Lib.hid hm2
      have HO := Lib.hid ho2
      have HB2 := Lib.hid hb2
      have HRold := Lib.hid hr
      have hsz : (l.push i).size = l.size + 1 := Array.size_push ..
      have HSZ := Lib.hid hsz
      clear hr2 hm2 ho2 f2 hb2 hr hm hsz
      have lt3 : i = 0 ∨ i = 1 ∨ i = 2 := by omega
      rcases lt3 with rfl | rfl | rfl
      · simp only [k30] at hrun hen
        go_wp2_with (first | (go_at_call 106; refine (has_d1_d _ _ _ _).mono ?_; rintro e w' ⟨rfl, rfl⟩) | (go_at_call 107; refine (reg_any _ _ _ (by omega) (by omega)).mono ?_; rintro e w' ⟨rfl, rfl⟩))
        go_roundw
        case rel =>
          refine ⟨l.push 0, hS, old_obj _ (old_obj _ ?_), old_obj _ (old_obj _ ?_), old_obj _ (old_obj _ ?_), ((HB2.out.setCell (Nat.le_refl _) _).alloc (by simp; omega) _).alloc (by simp; omega) _⟩
          · rw [Below.heap_setCell _ _ _ _ (by dsimp only; omega)]; exact HR.out
          · rw [Below.heap_setCell _ _ _ _ (by dsimp only; omega)]; exact HM.out
          · rw [heap_setCell_same _ _ 1 _ _ _ HO.out]; simp only [pick3_none, pick3_self, pick3_other l 1 0 _ _ _ (by decide), pick3_other l 2 0 _ _ _ (by decide)]; rfl
        case measure =>
          rw [leftM_eq HRold.out, leftM_eq (old_obj _ (old_obj _ (by rw [Below.heap_setCell _ _ _ _ (by dsimp only; omega)]; exact HR.out)))]
          have := HSZ.out
          omega
      · simp only [k31] at hrun hen
        go_wp2_with (first | (go_at_call 106; refine (has_d1_1 _ _ _ _).mono ?_; rintro e w' ⟨rfl, rfl⟩) | (go_at_call 107; refine (reg_any _ _ _ (by omega) (by omega)).mono ?_; rintro e w' ⟨rfl, rfl⟩))
        go_roundw
        case rel =>
          refine ⟨l.push 1, hS, old_obj _ (old_obj _ ?_), old_obj _ (old_obj _ ?_), old_obj _ (old_obj _ ?_), ((HB2.out.setCell (Nat.le_refl _) _).alloc (by simp; omega) _).alloc (by simp; omega) _⟩
          · rw [Below.heap_setCell _ _ _ _ (by dsimp only; omega)]; exact HR.out
          · rw [Below.heap_setCell _ _ _ _ (by dsimp only; omega)]; exact HM.out
          · rw [heap_setCell_same _ _ 2 _ _ _ HO.out]; simp only [pick3_none, pick3_self, pick3_other l 0 1 _ _ _ (by decide), pick3_other l 2 1 _ _ _ (by decide)]; rfl
        case measure =>
          rw [leftM_eq HRold.out, leftM_eq (old_obj _ (old_obj _ (by rw [Below.heap_setCell _ _ _ _ (by dsimp only; omega)]; exact HR.out)))]
          have := HSZ.out
          omega
      · simp only [k32] at hrun hen
        go_wp2_with (go_at_call 106; refine (has_d1_2 _ _ _ _).mono ?_; rintro e w' ⟨rfl, rfl⟩)
        go_roundw
        case rel =>
          refine ⟨l.push 2, hS, old_obj _ HR.out, old_obj _ HM.out, old_obj _ ?_, HB2.out.alloc (by omega) _⟩
          rw [HO.out]; simp only [pick3_none, pick3_other l 0 2 _ _ _ (by decide), pick3_other l 1 2 _ _ _ (by decide)]
        case measure =>
          rw [leftM_eq HRold.out, leftM_eq (old_obj _ HR.out)]
          have := HSZ.out
          omega
set_option maxRecDepth 100000 in
theorem op_12 (mask sg sl : Value) (name : Int) (x v : BitVec 32) (w : World)
    (hnum : ∀ wr, Below w.heap.size w wr → Calls Tryz.prog 105 #[.agg #[mask, (.string ⟨#[49, 50]⟩), sg, sl], U x] wr fun e w' => e = .returned (U v) ∧ Below wr.heap.size wr w') :
  Calls Tryz.prog 64 #[.agg #[mask, (.string ⟨#[49, 50]⟩), sg, sl], I name, U x] w fun e w' => e = .returned (opV name 0 (u (fieldF x 15 5)) (u (fieldF x 20 5)) v) ∧ Below w.heap.size w w' := by
  have H := Lib.hid hnum; clear hnum
  go_enter Tryz.func64, Tryz.ntmps64
  go_wp2_with (go_at_call 105; refine (H.out _ (((Below.refl _ _).alloc (Nat.le_refl _) _).alloc (by simp) _)).mono ?_; rintro e w1 ⟨rfl, hb⟩)
  have hz : w.heap.size + 1 + 1 ≤ w1.heap.size := by have := hb.size; simpa using this
  have f0 : w1.heap[w.heap.size]? = some (.cells #[mask, (.string ⟨#[49, 50]⟩), sg, sl] (/-T-/ 123)) := by
    rw [hb.block _ (by simp; omega), Below.heap_alloc _ _ _ (by simp)]; exact last_obj w _
  have f1 : w1.heap[w.heap.size + 1]? = some (.cells #[I 0, I 0, I 0, I 0, .int .u32 0] (/-T-/ 68)) := by
    rw [hb.block _ (by simp)]; have := last_obj (w.alloc (.cells #[mask, (.string ⟨#[49, 50]⟩), sg, sl] (/-T-/ 123))) (.cells #[I 0, I 0, I 0, I 0, .int .u32 0] (/-T-/ 68)); simpa using this
  have hB : Below w.heap.size w w1 := (((Below.refl _ _).alloc (Nat.le_refl _) _).alloc (by simp) _).trans (hb.mono (by simp; omega))
  have HB := Lib.hid hB
  have F0 := Lib.hid f0
  have F1 := Lib.hid f1
  clear hB hb f0 f1
  go_wp2
  go_loopw [8, 9] (fun _ _ wr => ∃ l, Seen l ∧ wr.heap[w1.heap.size + 1 + 1]? = some (.mapIter (some (w1.heap.size + 1)) 3 l 3)
      ∧ wr.heap[w1.heap.size + 1]? = some (.map (es3 (.string ⟨#[100]⟩) (.string ⟨#[49]⟩) (.string ⟨#[50]⟩) (.pointer (some ⟨w1.heap.size, 1, none⟩)) (.pointer (some ⟨w1.heap.size, 2, none⟩)) (.pointer (some ⟨w1.heap.size, 3, none⟩))) 3)
      ∧ wr.heap[w1.heap.size]? = some (.cells #[I name, I (pick3 l 0 false x 7), I (pick3 l 1 true x 15), I (pick3 l 2 true x 20), U v] (/-T-/ 68)) ∧ Below w1.heap.size w1 wr)
    (fun _ _ wr => leftM wr (w1.heap.size + 1 + 1))
  case atStart =>
    refine ⟨#[], by simp [Seen], ?_, ?_, ?_, ?_⟩
    · exact last_obj' _ (by simp)
    · exact old_obj _ (last_obj' _ (by simp))
    · have h := old_obj (.mapIter (some (w1.heap.size + 1)) 3 #[] 3) (old_obj (.map (es3 (.string ⟨#[100]⟩) (.string ⟨#[49]⟩) (.string ⟨#[50]⟩) (.pointer (some ⟨w1.heap.size, 1, none⟩)) (.pointer (some ⟨w1.heap.size, 2, none⟩)) (.pointer (some ⟨w1.heap.size, 3, none⟩))) 3) (last_obj w1 (.cells #[I name, I 0, I 0, I 0, U v] (/-T-/ 68))))
      rw [h]; simp [pick3]
    · exact (((Below.refl _ _).alloc (Nat.le_refl _) _).alloc (by simp) _).alloc (by simp; omega) _
  case round =>
    obtain ⟨l, hl, hr, hm, ho, hb⟩ := hrel
    have f0 : wr.heap[w.heap.size]? = some (.cells #[mask, (.string ⟨#[49, 50]⟩), sg, sl] (/-T-/ 123)) := hb.at (by omega) F0.out
    have f1 : wr.heap[w.heap.size + 1]? = some (.cells #[I 0, I 0, I 0, I 0, .int .u32 0] (/-T-/ 68)) := hb.at (by omega) F1.out
    have hN := run_next3 (P := Tryz.prog) wr (w1.heap.size + 1) (w1.heap.size + 1 + 1) _ _ _ _ _ _ 0 l hl hm hr
    rcases hN with ⟨hs, hrun⟩ | ⟨i, n, hi, hli, hS, hs, hrun⟩
    · have co := fun j => cell_of_row wr w1.heap.size j _ _ _ ho
      have cf := fun j => cell_of_row wr (w.heap.size + 1) j _ _ _ f1
      have zf := fun j => frozen_of_row wr (w.heap.size + 1) j _ _ f1
      have HO := Lib.hid ho
      have HBr := Lib.hid hb
      have FF1 := Lib.hid f1
      clear hb f0 f1 hr hm ho
      obtain ⟨s0, s1, s2⟩ := seen3 hl hs
      go_wp2
      refine bodyPost_ret (results_cell_row rfl _ _ (w.heap.size + 1) (/-T-/ 68) _ (0, 0) _ rfl
        (heap_setCell_same _ _ 4 _ _ _ (heap_setCell_same _ _ 3 _ _ _ (heap_setCell_same _ _ 2 _ _ _ (heap_setCell_same _ _ 1 _ _ _ (heap_setCell_same _ _ 0 _ _ _ FF1.out)))))
        Tryz.underlying68 rfl (by kernel_rfl)) rfl ⟨?_, ?_⟩
      · simp only [pick3, s0, s1, s2, Bool.and_true, Bool.and_false, if_true, Bool.false_eq_true, if_false]; rfl
      · exact (HB.out.trans (HBr.out.mono (by omega))).setCell (by simp) _ |>.setCell (by simp) _ |>.setCell (by simp) _ |>.setCell (by simp) _ |>.setCell (by simp) _
    · have key : ∃ w2, Sem.run Tryz.prog (Instr.next (.pointer (some ⟨w1.heap.size + 1 + 1, 0, none⟩)) false 0) wr = .ok (.tuple #[.bool true, key3 (.string ⟨#[100]⟩) (.string ⟨#[49]⟩) (.string ⟨#[50]⟩) i, key3 (.pointer (some ⟨w1.heap.size, 1, none⟩)) (.pointer (some ⟨w1.heap.size, 2, none⟩)) (.pointer (some ⟨w1.heap.size, 3, none⟩)) i]) w2
          ∧ w2.heap[w1.heap.size + 1 + 1]? = some (.mapIter (some (w1.heap.size + 1)) 3 (l.push i) 3)
          ∧ w2.heap[w1.heap.size + 1]? = some (.map (es3 (.string ⟨#[100]⟩) (.string ⟨#[49]⟩) (.string ⟨#[50]⟩) (.pointer (some ⟨w1.heap.size, 1, none⟩)) (.pointer (some ⟨w1.heap.size, 2, none⟩)) (.pointer (some ⟨w1.heap.size, 3, none⟩))) 3)
          ∧ w2.heap[w1.heap.size]? = some (.cells #[I name, I (pick3 l 0 false x 7), I (pick3 l 1 true x 15), I (pick3 l 2 true x 20), U v] (/-T-/ 68))
          ∧ w2.heap[w.heap.size]? = some (.cells #[mask, (.string ⟨#[49, 50]⟩), sg, sl] (/-T-/ 123)) ∧ Below w1.heap.size w1 w2 := by
        refine ⟨_, hrun, heap_setO_self (wr.drewN n) _ _ _ hr, ?_, ?_, ?_, (hb.drewN n).setO (by omega) _⟩
        · rw [heap_setO0 _ _ _ _ (by omega)]; exact hm
        · rw [heap_setO0 _ _ _ _ (by omega)]; exact ho
        · rw [heap_setO0 _ _ _ _ (by omega)]; exact f0
      clear hrun f0 f1 ho hb
      obtain ⟨w2, hrun, hr2, hm2, ho2, f2, hb2⟩ := key
      have hen := run_entry3 (P := Tryz.prog) w2 (w1.heap.size + 1) (w1.heap.size + 1 + 1) _ _ _ _ _ _ i hi l hm2 hr2
      have hz2 : w1.heap.size + 1 + 1 < w2.heap.size := lt_of_obj hr2
      have hz3 : w1.heap.size < w2.heap.size := by omega
      have hz4 : w1.heap.size < w2.heap.size + 1 := by omega
      have cf := fun j => cell_of_row w2 w.heap.size j _ _ _ f2
      have co := fun j => cell_of_row w2 w1.heap.size j _ _ _ ho2
      have zo := fun j => frozen_of_row w2 w1.heap.size j _ _ ho2
      have HR := Lib.hid hr2
      have HM := Lib.hid hm2
      have HO := Lib.hid ho2
      have HB2 := Lib.hid hb2
      have HRold := Lib.hid hr
      have hsz : (l.push i).size = l.size + 1 := Array.size_push ..
      have HSZ := Lib.hid hsz
      clear hr2 hm2 ho2 f2 hb2 hr hm hsz
      have lt3 : i = 0 ∨ i = 1 ∨ i = 2 := by omega
      rcases lt3 with rfl | rfl | rfl
      · simp only [k30] at hrun hen
        go_wp2_with (go_at_call 106; refine (has_12_d _ _ _ _).mono ?_; rintro e w' ⟨rfl, rfl⟩)
        go_roundw
        case rel =>
          refine ⟨l.push 0, hS, old_obj _ HR.out, old_obj _ HM.out, old_obj _ ?_, HB2.out.alloc (by omega) _⟩
          rw [HO.out]; simp only [pick3_none, pick3_other l 1 0 _ _ _ (by decide), pick3_other l 2 0 _ _ _ (by decide)]
        case measure =>
          rw [leftM_eq HRold.out, leftM_eq (old_obj _ HR.out)]
          have := HSZ.out
          omega
      · simp only [k31] at hrun hen
        go_wp2_with (first | (go_at_call 106; refine (has_12_1 _ _ _ _).mono ?_; rintro e w' ⟨rfl, rfl⟩) | (go_at_call 107; refine (reg_any _ _ _ (by omega) (by omega)).mono ?_; rintro e w' ⟨rfl, rfl⟩))
        go_roundw
        case rel =>
          refine ⟨l.push 1, hS, old_obj _ (old_obj _ ?_), old_obj _ (old_obj _ ?_), old_obj _ (old_obj _ ?_), ((HB2.out.setCell (Nat.le_refl _) _).alloc (by simp; omega) _).alloc (by simp; omega) _⟩
          · rw [Below.heap_setCell _ _ _ _ (by dsimp only; omega)]; exact HR.out
          · rw [Below.heap_setCell _ _ _ _ (by dsimp only; omega)]; exact HM.out
          · rw [heap_setCell_same _ _ 2 _ _ _ HO.out]; simp only [pick3_none, pick3_self, pick3_other l 0 1 _ _ _ (by decide), pick3_other l 2 1 _ _ _ (by decide)]; rfl
        case measure =>
          rw [leftM_eq HRold.out, leftM_eq (old_obj _ (old_obj _ (by rw [Below.heap_setCell _ _ _ _ (by dsimp only; omega)]; exact HR.out)))]
          have := HSZ.out
          omega
      · simp only [k32] at hrun hen
        go_wp2_with (first | (go_at_call 106; refine (has_12_2 _ _ _ _).mono ?_; rintro e w' ⟨rfl, rfl⟩) | (go_at_call 107; refine (reg_any _ _ _ (by omega) (by omega)).mono ?_; rintro e w' ⟨rfl, rfl⟩))
        go_roundw
        case rel =>
          refine ⟨l.push 2, hS, old_obj _ (old_obj _ ?_), old_obj _ (old_obj _ ?_), old_obj _ (old_obj _ ?_), ((HB2.out.setCell (Nat.le_refl _) _).alloc (by simp; omega) _).alloc (by simp; omega) _⟩
          · rw [Below.heap_setCell _ _ _ _ (by dsimp only; omega)]; exact HR.out
          · rw [Below.heap_setCell _ _ _ _ (by dsimp only; omega)]; exact HM.out
          · rw [heap_setCell_same _ _ 3 _ _ _ HO.out]; simp only [pick3_none, pick3_self, pick3_other l 0 2 _ _ _ (by decide), pick3_other l 1 2 _ _ _ (by decide)]; rfl
        case measure =>
          rw [leftM_eq HRold.out, leftM_eq (old_obj _ (old_obj _ (by rw [Below.heap_setCell _ _ _ _ (by dsimp only; omega)]; exact HR.out)))]
          have := HSZ.out
          omega
set_option maxRecDepth 100000 in
theorem op_d12 (mask sg sl : Value) (name : Int) (x v : BitVec 32) (w : World)
    (hnum : ∀ wr, Below w.heap.size w wr → Calls Tryz.prog 105 #[.agg #[mask, (.string ⟨#[100, 49, 50]⟩), sg, sl], U x] wr fun e w' => e = .returned (U v) ∧ Below wr.heap.size wr w') :
  Calls Tryz.prog 64 #[.agg #[mask, (.string ⟨#[100, 49, 50]⟩), sg, sl], I name, U x] w fun e w' => e = .returned (opV name (u (fieldF x 7 5)) (u (fieldF x 15 5)) (u (fieldF x 20 5)) v) ∧ Below w.heap.size w w' := by
  have H := Lib.hid hnum; clear hnum
  go_enter Tryz.func64, Tryz.ntmps64
  go_wp2_with (go_at_call 105; refine (H.out _ (((Below.refl _ _).alloc (Nat.le_refl _) _).alloc (by simp) _)).mono ?_; rintro e w1 ⟨rfl, hb⟩)
  have hz : w.heap.size + 1 + 1 ≤ w1.heap.size := by have := hb.size; simpa using this
  have f0 : w1.heap[w.heap.size]? = some (.cells #[mask, (.string ⟨#[100, 49, 50]⟩), sg, sl] (/-T-/ 123)) := by
    rw [hb.block _ (by simp; omega), Below.heap_alloc _ _ _ (by simp)]; exact last_obj w _
  have f1 : w1.heap[w.heap.size + 1]? = some (.cells #[I 0, I 0, I 0, I 0, .int .u32 0] (/-T-/ 68)) := by
    rw [hb.block _ (by simp)]; have := last_obj (w.alloc (.cells #[mask, (.string ⟨#[100, 49, 50]⟩), sg, sl] (/-T-/ 123))) (.cells #[I 0, I 0, I 0, I 0, .int .u32 0] (/-T-/ 68)); simpa using this
  have hB : Below w.heap.size w w1 := (((Below.refl _ _).alloc (Nat.le_refl _) _).alloc (by simp) _).trans (hb.mono (by simp; omega))
  have HB := Lib.hid hB
  have F0 := Lib.hid f0
  have F1 := Lib.hid f1
  clear hB hb f0 f1
  go_wp2
  go_loopw [8, 9] (fun _ _ wr => ∃ l, Seen l ∧ wr.heap[w1.heap.size + 1 + 1]? = some (.mapIter (some (w1.heap.size + 1)) 3 l 3)
      ∧ wr.heap[w1.heap.size + 1]? = some (.map (es3 (.string ⟨#[100]⟩) (.string ⟨#[49]⟩) (.string ⟨#[50]⟩) (.pointer (some ⟨w1.heap.size, 1, none⟩)) (.pointer (some ⟨w1.heap.size, 2, none⟩)) (.pointer (some ⟨w1.heap.size, 3, none⟩))) 3)
      ∧ wr.heap[w1.heap.size]? = some (.cells #[I name, I (pick3 l 0 true x 7), I (pick3 l 1 true x 15), I (pick3 l 2 true x 20), U v] (/-T-/ 68)) ∧ Below w1.heap.size w1 wr)
    (fun _ _ wr => leftM wr (w1.heap.size + 1 + 1))
  case atStart =>
    refine ⟨#[], by simp [Seen], ?_, ?_, ?_, ?_⟩
    · exact last_obj' _ (by simp)
    · exact old_obj _ (last_obj' _ (by simp))
    · have h := old_obj (.mapIter (some (w1.heap.size + 1)) 3 #[] 3) (old_obj (.map (es3 (.string ⟨#[100]⟩) (.string ⟨#[49]⟩) (.string ⟨#[50]⟩) (.pointer (some ⟨w1.heap.size, 1, none⟩)) (.pointer (some ⟨w1.heap.size, 2, none⟩)) (.pointer (some ⟨w1.heap.size, 3, none⟩))) 3) (last_obj w1 (.cells #[I name, I 0, I 0, I 0, U v] (/-T-/ 68))))
      rw [h]; simp [pick3]
    · exact (((Below.refl _ _).alloc (Nat.le_refl _) _).alloc (by simp) _).alloc (by simp; omega) _
  case round =>
    obtain ⟨l, hl, hr, hm, ho, hb⟩ := hrel
    have f0 : wr.heap[w.heap.size]? = some (.cells #[mask, (.string ⟨#[100, 49, 50]⟩), sg, sl] (/-T-/ 123)) := hb.at (by omega) F0.out
    have f1 : wr.heap[w.heap.size + 1]? = some (.cells #[I 0, I 0, I 0, I 0, .int .u32 0] (/-T-/ 68)) := hb.at (by omega) F1.out
    have hN := run_next3 (P := Tryz.prog) wr (w1.heap.size + 1) (w1.heap.size + 1 + 1) _ _ _ _ _ _ 0 l hl hm hr
    rcases hN with ⟨hs, hrun⟩ | ⟨i, n, hi, hli, hS, hs, hrun⟩
    · have co := fun j => cell_of_row wr w1.heap.size j _ _ _ ho
      have cf := fun j => cell_of_row wr (w.heap.size + 1) j _ _ _ f1
      have zf := fun j => frozen_of_row wr (w.heap.size + 1) j _ _ f1
      have HO := Lib.hid ho
      have HBr := Lib.hid hb
      have FF1 := Lib.hid f1
      clear hb f0 f1 hr hm ho
      obtain ⟨s0, s1, s2⟩ := seen3 hl hs
      go_wp2
      refine bodyPost_ret (results_cell_row rfl _ _ (w.heap.size + 1) (/-T-/ 68) _ (0, 0) _ rfl
        (heap_setCell_same _ _ 4 _ _ _ (heap_setCell_same _ _ 3 _ _ _ (heap_setCell_same _ _ 2 _ _ _ (heap_setCell_same _ _ 1 _ _ _ (heap_setCell_same _ _ 0 _ _ _ FF1.out)))))
        Tryz.underlying68 rfl (by kernel_rfl)) rfl ⟨?_, ?_⟩
      · simp only [pick3, s0, s1, s2, Bool.and_true, if_true]; rfl
      · exact (HB.out.trans (HBr.out.mono (by omega))).setCell (by simp) _ |>.setCell (by simp) _ |>.setCell (by simp) _ |>.setCell (by simp) _ |>.setCell (by simp) _
    · have key : ∃ w2, Sem.run Tryz.prog (Instr.next (.pointer (some ⟨w1.heap.size + 1 + 1, 0, none⟩)) false 0) wr = .ok (.tuple #[.bool true, key3 (.string ⟨#[100]⟩) (.string ⟨#[49]⟩) (.string ⟨#[50]⟩) i, key3 (.pointer (some ⟨w1.heap.size, 1, none⟩)) (.pointer (some ⟨w1.heap.size, 2, none⟩)) (.pointer (some ⟨w1.heap.size, 3, none⟩)) i]) w2
          ∧ w2.heap[w1.heap.size + 1 + 1]? = some (.mapIter (some (w1.heap.size + 1)) 3 (l.push i) 3)
          ∧ w2.heap[w1.heap.size + 1]? = some (.map (es3 (.string ⟨#[100]⟩) (.string ⟨#[49]⟩) (.string ⟨#[50]⟩) (.pointer (some ⟨w1.heap.size, 1, none⟩)) (.pointer (some ⟨w1.heap.size, 2, none⟩)) (.pointer (some ⟨w1.heap.size, 3, none⟩))) 3)
          ∧ w2.heap[w1.heap.size]? = some (.cells #[I name, I (pick3 l 0 true x 7), I (pick3 l 1 true x 15), I (pick3 l 2 true x 20), U v] (/-T-/ 68))
          ∧ w2.heap[w.heap.size]? = some (.cells #[mask, (.string ⟨#[100, 49, 50]⟩), sg, sl] (/-T-/ 123)) ∧ Below w1.heap.size w1 w2 := by
        refine ⟨_, hrun, heap_setO_self (wr.drewN n) _ _ _ hr, ?_, ?_, ?_, (hb.drewN n).setO (by omega) _⟩
        · rw [heap_setO0 _ _ _ _ (by omega)]; exact hm
        · rw [heap_setO0 _ _ _ _ (by omega)]; exact ho
        · rw [heap_setO0 _ _ _ _ (by omega)]; exact f0
      clear hrun f0 f1 ho hb
      obtain ⟨w2, hrun, hr2, hm2, ho2, f2, hb2⟩ := key
      have hen := run_entry3 (P := Tryz.prog) w2 (w1.heap.size + 1) (w1.heap.size + 1 + 1) _ _ _ _ _ _ i hi l hm2 hr2
      have hz2 : w1.heap.size + 1 + 1 < w2.heap.size := lt_of_obj hr2
      have hz3 : w1.heap.size < w2.heap.size := by omega
      have hz4 : w1.heap.size < w2.heap.size + 1 := by omega
      have cf := fun j => cell_of_row w2 w.heap.size j _ _ _ f2
      have co := fun j => cell_of_row w2 w1.heap.size j _ _ _ ho2
      have zo := fun j => frozen_of_row w2 w1.heap.size j _ _ ho2
      have HR := Lib.hid hr2
      have HM := Lib.hid hm2
      have HO := Lib.hid ho2
      have HB2 := Lib.hid hb2
      have HRold := Lib.hid hr
      have hsz : (l.push i).size = l.size + 1 := Array.size_push ..
      have HSZ := Lib.hid hsz
      clear hr2 hm2 ho2 f2 hb2 hr hm hsz
      have lt3 : i = 0 ∨ i = 1 ∨ i = 2 := by omega
      rcases lt3 with rfl | rfl | rfl
      · simp only [k30] at hrun hen
        go_wp2_with (first | (go_at_call 106; refine (has_d12_d _ _ _ _).mono ?_; rintro e w' ⟨rfl, rfl⟩) | (go_at_call 107; refine (reg_any _ _ _ (by omega) (by omega)).mono ?_; rintro e w' ⟨rfl, rfl⟩))
        go_roundw
        case rel =>
          refine ⟨l.push 0, hS, old_obj _ (old_obj _ ?_), old_obj _ (old_obj _ ?_), old_obj _ (old_obj _ ?_), ((HB2.out.setCell (Nat.le_refl _) _).alloc (by simp; omega) _).alloc (by simp; omega) _⟩
          · rw [Below.heap_setCell _ _ _ _ (by dsimp only; omega)]; exact HR.out
          · rw [Below.heap_setCell _ _ _ _ (by dsimp only; omega)]; exact HM.out
          · rw [heap_setCell_same _ _ 1 _ _ _ HO.out]; simp only [pick3_self, pick3_other l 1 0 _ _ _ (by decide), pick3_other l 2 0 _ _ _ (by decide)]; rfl
        case measure =>
          rw [leftM_eq HRold.out, leftM_eq (old_obj _ (old_obj _ (by rw [Below.heap_setCell _ _ _ _ (by dsimp only; omega)]; exact HR.out)))]
          have := HSZ.out
          omega
      · simp only [k31] at hrun hen
        go_wp2_with (first | (go_at_call 106; refine (has_d12_1 _ _ _ _).mono ?_; rintro e w' ⟨rfl, rfl⟩) | (go_at_call 107; refine (reg_any _ _ _ (by omega) (by omega)).mono ?_; rintro e w' ⟨rfl, rfl⟩))
        go_roundw
        case rel =>
          refine ⟨l.push 1, hS, old_obj _ (old_obj _ ?_), old_obj _ (old_obj _ ?_), old_obj _ (old_obj _ ?_), ((HB2.out.setCell (Nat.le_refl _) _).alloc (by simp; omega) _).alloc (by simp; omega) _⟩
          · rw [Below.heap_setCell _ _ _ _ (by dsimp only; omega)]; exact HR.out
          · rw [Below.heap_setCell _ _ _ _ (by dsimp only; omega)]; exact HM.out
          · rw [heap_setCell_same _ _ 2 _ _ _ HO.out]; simp only [pick3_self, pick3_other l 0 1 _ _ _ (by decide), pick3_other l 2 1 _ _ _ (by decide)]; rfl
        case measure =>
          rw [leftM_eq HRold.out, leftM_eq (old_obj _ (old_obj _ (by rw [Below.heap_setCell _ _ _ _ (by dsimp only; omega)]; exact HR.out)))]
          have := HSZ.out
          omega
      · simp only [k32] at hrun hen
        go_wp2_with (first | (go_at_call 106; refine (has_d12_2 _ _ _ _).mono ?_; rintro e w' ⟨rfl, rfl⟩) | (go_at_call 107; refine (reg_any _ _ _ (by omega) (by omega)).mono ?_; rintro e w' ⟨rfl, rfl⟩))
        go_roundw
        case rel =>
          refine ⟨l.push 2, hS, old_obj _ (old_obj _ ?_), old_obj _ (old_obj _ ?_), old_obj _ (old_obj _ ?_), ((HB2.out.setCell (Nat.le_refl _) _).alloc (by simp; omega) _).alloc (by simp; omega) _⟩
          · rw [Below.heap_setCell _ _ _ _ (by dsimp only; omega)]; exact HR.out
          · rw [Below.heap_setCell _ _ _ _ (by dsimp only; omega)]; exact HM.out
          · rw [heap_setCell_same _ _ 3 _ _ _ HO.out]; simp only [pick3_self, pick3_other l 0 2 _ _ _ (by decide), pick3_other l 1 2 _ _ _ (by decide)]; rfl
        case measure =>
          rw [leftM_eq HRold.out, leftM_eq (old_obj _ (old_obj _ (by rw [Below.heap_setCell _ _ _ _ (by dsimp only; omega)]; exact HR.out)))]
          have := HSZ.out
          omega
set_option maxRecDepth 100000 in
theorem op_e (mask sg sl : Value) (name : Int) (x v : BitVec 32) (w : World)
    (hnum : ∀ wr, Below w.heap.size w wr → Calls Tryz.prog 105 #[.agg #[mask, (.string ⟨#[]⟩), sg, sl], U x] wr fun e w' => e = .returned (U v) ∧ Below wr.heap.size wr w') :
  Calls Tryz.prog 64 #[.agg #[mask, (.string ⟨#[]⟩), sg, sl], I name, U x] w fun e w' => e = .returned (opV name 0 0 0 v) ∧ Below w.heap.size w w' := by
  have H := Lib.hid hnum; clear hnum
  go_enter Tryz.func64, Tryz.ntmps64
  go_wp2_with (go_at_call 105; refine (H.out _ (((Below.refl _ _).alloc (Nat.le_refl _) _).alloc (by simp) _)).mono ?_; rintro e w1 ⟨rfl, hb⟩)
  have hz : w.heap.size + 1 + 1 ≤ w1.heap.size := by have := hb.size; simpa using this
  have f0 : w1.heap[w.heap.size]? = some (.cells #[mask, (.string ⟨#[]⟩), sg, sl] (/-T-/ 123)) := by
    rw [hb.block _ (by simp; omega), Below.heap_alloc _ _ _ (by simp)]; exact last_obj w _
  have f1 : w1.heap[w.heap.size + 1]? = some (.cells #[I 0, I 0, I 0, I 0, .int .u32 0] (/-T-/ 68)) := by
    rw [hb.block _ (by simp)]; have := last_obj (w.alloc (.cells #[mask, (.string ⟨#[]⟩), sg, sl] (/-T-/ 123))) (.cells #[I 0, I 0, I 0, I 0, .int .u32 0] (/-T-/ 68)); simpa using this
  have hB : Below w.heap.size w w1 := (((Below.refl _ _).alloc (Nat.le_refl _) _).alloc (by simp) _).trans (hb.mono (by simp; omega))
  have HB := Lib.hid hB
  have F0 := Lib.hid f0
  have F1 := Lib.hid f1
  clear hB hb f0 f1
  go_wp2
  go_loopw [8, 9] (fun _ _ wr => ∃ l, Seen l ∧ wr.heap[w1.heap.size + 1 + 1]? = some (.mapIter (some (w1.heap.size + 1)) 3 l 3)
      ∧ wr.heap[w1.heap.size + 1]? = some (.map (es3 (.string ⟨#[100]⟩) (.string ⟨#[49]⟩) (.string ⟨#[50]⟩) (.pointer (some ⟨w1.heap.size, 1, none⟩)) (.pointer (some ⟨w1.heap.size, 2, none⟩)) (.pointer (some ⟨w1.heap.size, 3, none⟩))) 3)
      ∧ wr.heap[w1.heap.size]? = some (.cells #[I name, I (pick3 l 0 false x 7), I (pick3 l 1 false x 15), I (pick3 l 2 false x 20), U v] (/-T-/ 68)) ∧ Below w1.heap.size w1 wr)
    (fun _ _ wr => leftM wr (w1.heap.size + 1 + 1))
  case atStart =>
    refine ⟨#[], by simp [Seen], ?_, ?_, ?_, ?_⟩
    · exact last_obj' _ (by simp)
    · exact old_obj _ (last_obj' _ (by simp))
    · have h := old_obj (.mapIter (some (w1.heap.size + 1)) 3 #[] 3) (old_obj (.map (es3 (.string ⟨#[100]⟩) (.string ⟨#[49]⟩) (.string ⟨#[50]⟩) (.pointer (some ⟨w1.heap.size, 1, none⟩)) (.pointer (some ⟨w1.heap.size, 2, none⟩)) (.pointer (some ⟨w1.heap.size, 3, none⟩))) 3) (last_obj w1 (.cells #[I name, I 0, I 0, I 0, U v] (/-T-/ 68))))
      rw [h]; simp [pick3]
    · exact (((Below.refl _ _).alloc (Nat.le_refl _) _).alloc (by simp) _).alloc (by simp; omega) _
  case round =>
    obtain ⟨l, hl, hr, hm, ho, hb⟩ := hrel
    have f0 : wr.heap[w.heap.size]? = some (.cells #[mask, (.string ⟨#[]⟩), sg, sl] (/-T-/ 123)) := hb.at (by omega) F0.out
    have f1 : wr.heap[w.heap.size + 1]? = some (.cells #[I 0, I 0, I 0, I 0, .int .u32 0] (/-T-/ 68)) := hb.at (by omega) F1.out
    have hN := run_next3 (P := Tryz.prog) wr (w1.heap.size + 1) (w1.heap.size + 1 + 1) _ _ _ _ _ _ 0 l hl hm hr
    rcases hN with ⟨hs, hrun⟩ | ⟨i, n, hi, hli, hS, hs, hrun⟩
    · have co := fun j => cell_of_row wr w1.heap.size j _ _ _ ho
      have cf := fun j => cell_of_row wr (w.heap.size + 1) j _ _ _ f1
      have zf := fun j => frozen_of_row wr (w.heap.size + 1) j _ _ f1
      have HO := Lib.hid ho
      have HBr := Lib.hid hb
      have FF1 := Lib.hid f1
      clear hb f0 f1 hr hm ho
      obtain ⟨s0, s1, s2⟩ := seen3 hl hs
      go_wp2
      refine bodyPost_ret (results_cell_row rfl _ _ (w.heap.size + 1) (/-T-/ 68) _ (0, 0) _ rfl
        (heap_setCell_same _ _ 4 _ _ _ (heap_setCell_same _ _ 3 _ _ _ (heap_setCell_same _ _ 2 _ _ _ (heap_setCell_same _ _ 1 _ _ _ (heap_setCell_same _ _ 0 _ _ _ FF1.out)))))
        Tryz.underlying68 rfl (by kernel_rfl)) rfl ⟨?_, ?_⟩
      · simp only [pick3, s0, s1, s2, Bool.and_false, Bool.false_eq_true, if_false]; rfl
      · exact (HB.out.trans (HBr.out.mono (by omega))).setCell (by simp) _ |>.setCell (by simp) _ |>.setCell (by simp) _ |>.setCell (by simp) _ |>.setCell (by simp) _
    · have key : ∃ w2, Sem.run Tryz.prog (Instr.next (.pointer (some ⟨w1.heap.size + 1 + 1, 0, none⟩)) false 0) wr = .ok (.tuple #[.bool true, key3 (.string ⟨#[100]⟩) (.string ⟨#[49]⟩) (.string ⟨#[50]⟩) i, key3 (.pointer (some ⟨w1.heap.size, 1, none⟩)) (.pointer (some ⟨w1.heap.size, 2, none⟩)) (.pointer (some ⟨w1.heap.size, 3, none⟩)) i]) w2
          ∧ w2.heap[w1.heap.size + 1 + 1]? = some (.mapIter (some (w1.heap.size + 1)) 3 (l.push i) 3)
          ∧ w2.heap[w1.heap.size + 1]? = some (.map (es3 (.string ⟨#[100]⟩) (.string ⟨#[49]⟩) (.string ⟨#[50]⟩) (.pointer (some ⟨w1.heap.size, 1, none⟩)) (.pointer (some ⟨w1.heap.size, 2, none⟩)) (.pointer (some ⟨w1.heap.size, 3, none⟩))) 3)
          ∧ w2.heap[w1.heap.size]? = some (.cells #[I name, I (pick3 l 0 false x 7), I (pick3 l 1 false x 15), I (pick3 l 2 false x 20), U v] (/-T-/ 68))
          ∧ w2.heap[w.heap.size]? = some (.cells #[mask, (.string ⟨#[]⟩), sg, sl] (/-T-/ 123)) ∧ Below w1.heap.size w1 w2 := by
        refine ⟨_, hrun, heap_setO_self (wr.drewN n) _ _ _ hr, ?_, ?_, ?_, (hb.drewN n).setO (by omega) _⟩
        · rw [heap_setO0 _ _ _ _ (by omega)]; exact hm
        · rw [heap_setO0 _ _ _ _ (by omega)]; exact ho
        · rw [heap_setO0 _ _ _ _ (by omega)]; exact f0
      clear hrun f0 f1 ho hb
      obtain ⟨w2, hrun, hr2, hm2, ho2, f2, hb2⟩ := key
      have hen := run_entry3 (P := Tryz.prog) w2 (w1.heap.size + 1) (w1.heap.size + 1 + 1) _ _ _ _ _ _ i hi l hm2 hr2
      have hz2 : w1.heap.size + 1 + 1 < w2.heap.size := lt_of_obj hr2
      have hz3 : w1.heap.size < w2.heap.size := by omega
      have hz4 : w1.heap.size < w2.heap.size + 1 := by omega
      have cf := fun j => cell_of_row w2 w.heap.size j _ _ _ f2
      have co := fun j => cell_of_row w2 w1.heap.size j _ _ _ ho2
      have zo := fun j => frozen_of_row w2 w1.heap.size j _ _ ho2
      have HR := Lib.hid hr2
      have HM := Lib.hid hm2
      have HO := Lib.hid ho2
      have HB2 := Lib.hid hb2
      have HRold := Lib.hid hr
      have hsz : (l.push i).size = l.size + 1 := Array.size_push ..
      have HSZ := Lib.hid hsz
      clear hr2 hm2 ho2 f2 hb2 hr hm hsz
      have lt3 : i = 0 ∨ i = 1 ∨ i = 2 := by omega
      rcases lt3 with rfl | rfl | rfl
      · simp only [k30] at hrun hen
        go_wp2_with (go_at_call 106; refine (has_e_d _ _ _ _).mono ?_; rintro e w' ⟨rfl, rfl⟩)
        go_roundw
        case rel =>
          refine ⟨l.push 0, hS, old_obj _ HR.out, old_obj _ HM.out, old_obj _ ?_, HB2.out.alloc (by omega) _⟩
          rw [HO.out]; simp only [pick3_none, pick3_other l 1 0 _ _ _ (by decide), pick3_other l 2 0 _ _ _ (by decide)]
        case measure =>
          rw [leftM_eq HRold.out, leftM_eq (old_obj _ HR.out)]
          have := HSZ.out
          omega
      · simp only [k31] at hrun hen
        go_wp2_with (go_at_call 106; refine (has_e_1 _ _ _ _).mono ?_; rintro e w' ⟨rfl, rfl⟩)
        go_roundw
        case rel =>
          refine ⟨l.push 1, hS, old_obj _ HR.out, old_obj _ HM.out, old_obj _ ?_, HB2.out.alloc (by omega) _⟩
          rw [HO.out]; simp only [pick3_none, pick3_other l 0 1 _ _ _ (by decide), pick3_other l 2 1 _ _ _ (by decide)]
        case measure =>
          rw [leftM_eq HRold.out, leftM_eq (old_obj _ HR.out)]
          have := HSZ.out
          omega
      · simp only [k32] at hrun hen
        go_wp2_with (go_at_call 106; refine (has_e_2 _ _ _ _).mono ?_; rintro e w' ⟨rfl, rfl⟩)
        go_roundw
        case rel =>
          refine ⟨l.push 2, hS, old_obj _ HR.out, old_obj _ HM.out, old_obj _ ?_, HB2.out.alloc (by omega) _⟩
          rw [HO.out]; simp only [pick3_none, pick3_other l 0 2 _ _ _ (by decide), pick3_other l 1 2 _ _ _ (by decide)]
        case measure =>
          rw [leftM_eq HRold.out, leftM_eq (old_obj _ HR.out)]
          have := HSZ.out
          omega
end Go.Proofs.YtancmkdmlghlpaaGreatDoor
