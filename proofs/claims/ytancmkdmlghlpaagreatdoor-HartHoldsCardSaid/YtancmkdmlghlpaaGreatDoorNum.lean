/- decode.form.number: what it answers. No statement is proved here. -/
import Derived.Test.YtancmkdmlghlpaaGreatDoorBits
import Derived.Deep.QuietTactic
import Derived.BigQuiet
import Derived.Lib.Hide
namespace Go.Proofs.YtancmkdmlghlpaaGreatDoor
open Go Go.RowKit

theorem field_q {a : BitVec 32} {n m : Int} {w : World} (hn : 0 ≤ n) (h : n ≤ 40) (hm : 0 ≤ m) (hm' : m ≤ 32) :
    Calls Tryz.prog 103 #[U a, I n, I m] w fun e w' => e = .returned (U (fieldF a n.toNat m.toNat)) ∧ w' = w :=
  (field_any a n m w hn h hm hm').mono fun _ _ ⟨a, b⟩ => ⟨a, b.symm⟩
theorem put_q {a v : BitVec 32} {n m : Int} {w : World} (hn : 0 ≤ n) (h : n ≤ 40) (hm : 0 ≤ m) (hm' : m ≤ 32) :
    Calls Tryz.prog 136 #[U a, I n, I m, U v] w fun e w' => e = .returned (U (putF a n.toNat m.toNat v)) ∧ ∃ k, w' = w.drewN k :=
  (put_any a v n m w hn h hm hm').mono fun _ _ ⟨a, b⟩ => ⟨a, 1, b.symm⟩

structure Pc where
  at' : Int
  many : Int
  to : Int
def Pc.ok (p : Pc) : Prop := 0 ≤ p.at' ∧ p.at' ≤ 40 ∧ 0 ≤ p.many ∧ p.many ≤ 32 ∧ 0 ≤ p.to ∧ p.to ≤ 40
def pcells (ps : List Pc) : List Value := ps.flatMap fun p => [I p.at', I p.many, I p.to]
def numStep (x : BitVec 32) (n : BitVec 32) (p : Pc) : BitVec 32 := putF n p.to.toNat p.many.toNat (fieldF x p.at'.toNat p.many.toNat)
def numF (x : BitVec 32) (ps : List Pc) : BitVec 32 := ps.foldl (numStep x) 0#32
def signF0 (v : BitVec 32) (n : Int) : BitVec 32 := if n = 0 then v else signF v n.toNat

theorem pcells_get (ps : List Pc) (k : Nat) (h : k < ps.length) : (pcells ps)[k * 3]? = some (I ps[k].at') ∧ (pcells ps)[k * 3 + 1]? = some (I ps[k].many) ∧ (pcells ps)[k * 3 + 2]? = some (I ps[k].to) := by
  induction ps generalizing k with
  | nil => simp at h
  | cons p ps ih =>
    cases k with
    | zero => simp [pcells]
    | succ k =>
      have := ih k (by simpa using h)
      simp only [pcells, List.flatMap_cons, List.getElem_cons_succ] at this ⊢
      rw [show (k + 1) * 3 = k * 3 + 3 by omega, show k * 3 + 3 + 1 = k * 3 + 1 + 3 by omega, show k * 3 + 3 + 2 = k * 3 + 2 + 3 by omega]
      simpa using this
theorem numF_take (x : BitVec 32) (ps : List Pc) (k : Nat) (h : k < ps.length) : numF x (ps.take (k + 1)) = numStep x (numF x (ps.take k)) ps[k] := by
  unfold numF
  rw [List.take_succ_eq_append_getElem h, List.foldl_append]
  rfl
set_option maxRecDepth 100000 in
theorem number_any (m fs : Value) (sg : Int) (hsg : sg = 0 ∨ 0 < sg ∧ sg ≤ 31) (ps : List Pc) (hps : ∀ p ∈ ps, p.ok) (pb : Nat) (T : TypeId) (fz : Nat × Nat) (x : BitVec 32) (w : World)
    (hp : w.heap[pb]? = some (.cells (pcells ps).toArray T fz)) (hl : ps.length ≤ 100) :
    Calls Tryz.prog 105 #[.agg #[m, fs, I sg, .slice (some ⟨pb, 0, none⟩) ps.length ps.length], U x] w
      fun e w' => e = .returned (U (signF0 (numF x ps) sg)) ∧ Below w.heap.size w w' := by
  have hlt : pb < w.heap.size := by
    have := Array.getElem?_eq_some_iff.1 hp
    exact this.1
  go_enter Tryz.func105, Tryz.ntmps105
  go_wp2
  go_loopw [4, 10] (fun n i wr => ∃ k : Nat, k ≤ ps.length ∧ i = .int .i64 k ∧ n = U (numF x (ps.take k)) ∧ Below (w.heap.size + 1) (w.alloc (.cells #[m, fs, I sg, .slice (some ⟨pb, 0, none⟩) ps.length ps.length] 123)) wr) (fun _ i _ => ps.length - (intOf i).toNat)
  case atStart => exact ⟨0, Nat.zero_le _, rfl, rfl, Below.refl _ _⟩
  case round =>
    obtain ⟨k, hk, rfl, rfl, hb⟩ := hrel
    have hB : wr.heap[pb]? = some (.cells (pcells ps).toArray T fz) := by
      rw [hb.block pb (by omega), Below.heap_alloc _ _ _ hlt]; exact hp
    have hS : wr.cell? ⟨w.heap.size, 2, none⟩ = some (I sg) := by
      rw [hb.cell (p := ⟨w.heap.size, 2, none⟩) (by simp)]; simp
    by_cases hk1 : k < ps.length
    · obtain ⟨g0, g1, g2⟩ := pcells_get ps k hk1
      have c0 : wr.cell? ⟨pb, k * 3, none⟩ = some (I ps[k].at') := by rw [cell_of_row wr pb _ _ T fz hB]; simpa using g0
      have c1 : wr.cell? ⟨pb, k * 3 + 1, none⟩ = some (I ps[k].many) := by rw [cell_of_row wr pb _ _ T fz hB]; simpa using g1
      have c2 : wr.cell? ⟨pb, k * 3 + 2, none⟩ = some (I ps[k].to) := by rw [cell_of_row wr pb _ _ T fz hB]; simpa using g2
      have hok := hps ps[k] (List.getElem_mem hk1)
      have hn := numF_take x ps k hk1
      generalize ps[k] = p at *
      obtain ⟨a, mn, t⟩ := p
      obtain ⟨o1, o2, o3, o4, o5, o6⟩ := hok
      simp only at c0 c1 c2 o1 o2 o3 o4 o5 o6
      have HN := Lib.hid hn
      have HB := Lib.hid hb
      clear hB g0 g1 g2 hS hn hb hps hp
      go_wp2
      go_quiet ((first | (go_at_call 103; exact Calls.quiet_of_same (field_q o1 o2 o3 o4)) | (go_at_call 136; exact Calls.quiet_of (put_q o5 o6 o3 o4))))
      go_wp2
      go_roundw
      case rel => exact ⟨k + 1, by omega, by go_num, by rw [HN.out]; rfl, (HB.out.alloc (by have := HB.out.size; simp at this; omega) _).trans ⟨rfl, rfl, rfl, Nat.le_refl _, fun _ _ => rfl⟩⟩
      case measure => simp [intOf]; omega
    · obtain rfl : k = ps.length := by omega
      have HB := Lib.hid hb
      rw [List.take_of_length_le (Nat.le_refl _)]
      clear hB hb hps hp
      rcases hsg with rfl | ⟨hs1, hs2⟩
      · go_wp2_with (go_at_call 137; refine (sign_zero _ _).mono ?_; rintro e w' ⟨rfl, rfl⟩)
        go_ret
        exact ⟨rfl, ((Below.refl _ _).alloc (Nat.le_refl _) _).trans (HB.out.mono (by omega))⟩
      · go_wp2_with (go_at_call 137; refine (sign_any _ _ _ hs1 hs2).mono ?_; rintro e w' ⟨rfl, rfl⟩)
        go_ret
        exact ⟨by simp only [signF0]; rw [if_neg (by omega)]; rfl, ((Below.refl _ _).alloc (Nat.le_refl _) _).trans (HB.out.mono (by omega))⟩
end Go.Proofs.YtancmkdmlghlpaaGreatDoor
