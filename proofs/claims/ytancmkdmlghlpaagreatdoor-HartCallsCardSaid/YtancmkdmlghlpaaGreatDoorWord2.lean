/- decode.Word: what it answers. No statement is proved here. -/
import Derived.Test.YtancmkdmlghlpaaGreatDoorWord
namespace Go.Proofs.YtancmkdmlghlpaaGreatDoor
open Go Go.RowKit
theorem PcS.slice {w : World} {v : Value} {ps : List Pc} (h : PcS w v ps) : ∃ a n, v = .slice a n n := by
  rcases h with ⟨_, rfl⟩ | ⟨pb, rfl, _⟩
  · exact ⟨_, _, rfl⟩
  · exact ⟨_, _, rfl⟩
theorem PcS.below {w w' : World} {v : Value} {ps : List Pc} (h : PcS w v ps) (hb : Below w.heap.size w w') : PcS w' v ps := by
  rcases h with ⟨h1, h2⟩ | ⟨pb, h1, h2⟩
  · exact Or.inl ⟨h1, h2⟩
  · exact Or.inr ⟨pb, h1, hb.at (lt_of_obj h2) h2⟩
/-- What Word answers. -/
def wordV (x : BitVec 32) : Value :=
  match decodeF x with
  | some (k, c) => .tuple #[opV (k + 1 : Nat) (rdL c x) (r1L c x) (r2L c x) (immL c x), .bool true]
  | none => .tuple #[.agg #[I 0, I 0, I 0, I 0, .int .u32 0], .bool false]
theorem results_cell_tmp {P : Program} {fn : Func} {p q : Tmp} {ty : TypeId} (h : fn.results = #[.cell p ty, .tmp q]) (tmps : Array Value) (w : World) (g : Nat) (t : TypeId) (cs : Array Value) (fr : Nat × Nat) (d : TypeDesc) (v : Value)
    (hp : tmps.getD p undef = .pointer (some ⟨g, 0, none⟩)) (hg : w.heap[g]? = some (.cells cs t fr)) (hq : tmps.getD q undef = v)
    (hu : P.underlying ty = some d) (hd : (match d with | .struct _ | .array _ _ => true | _ => false) = true) (hi : (P.info? ty).map (·.size) = some cs.size) :
    (results fn tmps).run P w = .ok (.tuple #[.agg cs, v]) w := by
  have hp' : tmps[p]?.getD undef = .pointer (some ⟨g, 0, none⟩) := by simpa using hp
  have hq' : tmps[q]?.getD undef = v := by simpa using hq
  simp [results, h, hp', hq', asAddr, run_loadVar_row w g t ty cs fr d hg hu hd hi]
set_option maxRecDepth 100000 in
theorem word_any (x : BitVec 32) (w : World) : Calls Tryz.prog 35 #[U x] w fun e w' => e = .returned (wordV x) ∧ Below w.heap.size w w' := by
  go_enter Tryz.func35, Tryz.ntmps35
  go_wp2_with (go_at_call 62; refine (rows_any _).mono ?_; rintro e w1 ⟨pb, rfl, hp, hb⟩)
  have hz : w.heap.size + 1 ≤ w1.heap.size := by have := hb.size; simpa using this
  have f0 : w1.heap[w.heap.size]? = some (.cells #[I 0, I 0, I 0, I 0, .int .u32 0] (/-T-/ 68)) := by
    rw [hb.block _ (by simp)]; exact last_obj w _
  have hB : Below w.heap.size w w1 := ((Below.refl _ _).alloc (Nat.le_refl _) _).trans (hb.mono (by simp))
  have hpl := lt_of_obj hp
  have HB := Lib.hid hB
  have F0 := Lib.hid f0
  have HP := Lib.hid hp
  clear hB hb f0 hp
  go_wp2
  go_loopw [9] (fun i wr => ∃ k : Nat, k ≤ rowsL.length ∧ i = .int .i64 k ∧ (∀ j, j < k → ∀ h' : j < rowsL.length, rowHit x rowsL[j] = false) ∧ Below w1.heap.size w1 wr) (fun i _ => rowsL.length - (intOf i).toNat)
  case atStart => exact ⟨0, Nat.zero_le _, rfl, by omega, Below.refl _ _⟩
  case round =>
    obtain ⟨k, hk, rfl, hno, hb⟩ := hrel
    have hl : rowsL.length = 69 := rfl
    by_cases hk1 : k < rowsL.length
    · have hk2 : k < 69 := hk1
      have hB : wr.heap[pb]? = some (.cells (rcells rowsL).toArray (/-T-/ 120) (0, 0)) := hb.at hpl HP.out
      obtain ⟨g0, g1⟩ := rcells_get rowsL k hk1
      obtain ⟨hlet, hlt⟩ := rowsL_ok rowsL[k] (List.getElem_mem hk1)
      have c0 : wr.cell? ⟨pb, k * 2, none⟩ = some (.int .u32 (rowsL[k].1 : Int)) := by rw [cell_of_row wr pb _ _ _ _ hB, List.getElem?_toArray]; exact g0
      have c1 : wr.cell? ⟨pb, k * 2 + 1, none⟩ = some (.int .u8 (rowsL[k].2 : Int)) := by rw [cell_of_row wr pb _ _ _ _ hB, List.getElem?_toArray]; exact g1
      have HNO := Lib.hid hno
      have HBr := Lib.hid hb
      have HL := Lib.hid hl
      by_cases hh : rowHit x rowsL[k] = true
      · have HD := Lib.hid (decodeF_hit x k hk1 (fun j hj h' => hno j hj h') hh)
        unfold rowHit at hh
        generalize rowsL[k] = p at *
        obtain ⟨pn, c⟩ := p
        simp only at hh hlet hlt c0 c1 HD
        clear hB g0 g1 hno hb hl
        go_wp2_with (first
          | (go_at_call 63
             refine (shape_any c hlet _).mono ?_
             rintro e w2 ⟨sl, rfl, hb2, hps⟩
             obtain ⟨sa, sn, rfl⟩ := hps.slice
             have hr2 := hb2.cell (p := ⟨wr.heap.size, 0, none⟩) (by simp)
             have hs2 : wr.heap.size < w2.heap.size := by have := hb2.size; simp at this; omega
             have hs3 : w1.heap.size ≤ wr.heap.size := HBr.out.size
             have HPS := Lib.hid hps
             have HB2 := Lib.hid hb2
             clear hps hb2)
          | (go_at_call 64
             refine (op_any c hlet _ _ _ _ (HPS.out.below ((Below.refl _ _).alloc (Nat.le_refl _) _))).mono ?_
             rintro e w3 ⟨rfl, hb3⟩
             have f3 : w3.heap[w.heap.size]? = some (.cells #[I 0, I 0, I 0, I 0, .int .u32 0] (/-T-/ 68)) :=
               hb3.at (by simp; omega) (old_obj _ (HB2.out.at (by simp; omega) (old_obj _ (HBr.out.at (by omega) F0.out))))
             have co := fun j => cell_of_row w3 w.heap.size j _ _ _ f3
             have zo := fun j => frozen_of_row w3 w.heap.size j _ _ f3
             have HF3 := Lib.hid f3
             have HB3 := Lib.hid hb3
             clear hb3 f3))
        refine bodyPost_ret (results_cell_tmp rfl _ _ w.heap.size (/-T-/ 68) _ (0, 0) _ (.bool true) rfl
          (heap_setCell_same _ _ 4 _ _ _ (heap_setCell_same _ _ 3 _ _ _ (heap_setCell_same _ _ 2 _ _ _ (heap_setCell_same _ _ 1 _ _ _ (heap_setCell_same _ _ 0 _ _ _ HF3.out))))) rfl
          Tryz.underlying68 rfl (by kernel_rfl)) rfl ⟨?_, ?_⟩
        · unfold wordV; rw [HD.out]; rfl
        · have e1 : Below w.heap.size w wr := HB.out.trans (HBr.out.mono (by omega))
          have e2 : Below w.heap.size w w2 := (e1.alloc (by omega) _).trans (HB2.out.mono (by simp; omega))
          have e3 : Below w.heap.size w w3 := (e2.alloc (by omega) _).trans (HB3.out.mono (by simp; omega))
          exact e3.setCell (by simp) _ |>.setCell (by simp) _ |>.setCell (by simp) _ |>.setCell (by simp) _ |>.setCell (by simp) _
      · have hh' : rowHit x rowsL[k] = false := by simpa using hh
        have HH := Lib.hid (show ∀ j, j < k + 1 → ∀ h' : j < rowsL.length, rowHit x rowsL[j] = false from fun j hj h' => by
          by_cases e : j = k
          · subst e; exact hh'
          · exact hno j (by omega) h')
        clear hh
        unfold rowHit at hh'
        generalize rowsL[k] = p at *
        obtain ⟨pn, c⟩ := p
        simp only at hh' hlet hlt c0 c1
        clear hB g0 g1 hno hb hl
        go_wp2_with (go_at_call 63
                     refine (shape_any c hlet _).mono ?_
                     rintro e w2 ⟨sl, rfl, hb2, hps⟩
                     obtain ⟨sa, sn, rfl⟩ := hps.slice
                     have hr2 := hb2.cell (p := ⟨wr.heap.size, 0, none⟩) (by simp)
                     have hs2 : wr.heap.size < w2.heap.size := by have := hb2.size; simp at this; omega
                     have hs3 : w1.heap.size ≤ wr.heap.size := HBr.out.size
                     have HB2 := Lib.hid hb2
                     clear hps hb2)
        go_roundw
        case rel => exact ⟨k + 1, by omega, by go_num, HH.out, ((HBr.out.alloc (by omega) _).trans (HB2.out.mono (by simp; omega))).alloc (by omega) _⟩
        case measure => have := HL.out; simp [intOf]; omega
    · obtain rfl : k = 69 := by omega
      have HD := Lib.hid (decodeF_none x (fun j h' => hno j h' h'))
      have hs3 : w1.heap.size ≤ wr.heap.size := hb.size
      have f3 : wr.heap[w.heap.size]? = some (.cells #[I 0, I 0, I 0, I 0, .int .u32 0] (/-T-/ 68)) := hb.at (by omega) F0.out
      have co := fun j => cell_of_row wr w.heap.size j _ _ _ f3
      have zo := fun j => frozen_of_row wr w.heap.size j _ _ f3
      have HF3 := Lib.hid f3
      have HBr := Lib.hid hb
      clear hb f3 hno hk1
      clear hk hl
      go_wp2
      refine bodyPost_ret (results_cell_tmp rfl _ _ w.heap.size (/-T-/ 68) _ (0, 0) _ (.bool false) rfl
          (heap_setCell_same _ _ 4 _ _ _ (heap_setCell_same _ _ 3 _ _ _ (heap_setCell_same _ _ 2 _ _ _ (heap_setCell_same _ _ 1 _ _ _ (heap_setCell_same _ _ 0 _ _ _ HF3.out))))) rfl
          Tryz.underlying68 rfl (by kernel_rfl)) rfl ⟨?_, ?_⟩
      · unfold wordV; rw [HD.out]; rfl
      · exact (HB.out.trans (HBr.out.mono (by omega))).setCell (by simp) _ |>.setCell (by simp) _ |>.setCell (by simp) _ |>.setCell (by simp) _ |>.setCell (by simp) _
end Go.Proofs.YtancmkdmlghlpaaGreatDoor
