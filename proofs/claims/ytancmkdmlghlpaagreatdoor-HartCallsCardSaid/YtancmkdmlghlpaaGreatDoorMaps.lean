/- Laws for a map that a call writes out with three string keys: insert, lookup, range, next, entry. No statement is proved here. -/
import Derived.Test.YtancmkdmlghlpaaGreatDoorBase
namespace Go.Proofs.YtancmkdmlghlpaaGreatDoor
open Go Go.RowKit

section
variable {P : Program} (w : World)
theorem run_setObj_map (r : Nat) (o : Obj) (es : Array MapEntry) (c : Nat) (h : w.heap[r]? = some (.map es c)) :
    Sem.run P (setObj r o) w = .ok () (setO w r o) := by
  show Sem.run P (.setObj r o (.pure ())) w = _
  simp only [Sem.run, h]; rfl
theorem run_setObj_iter (r : Nat) (o : Obj) (a : Option Nat) (b : Nat) (c : Array Nat) (d : Nat) (h : w.heap[r]? = some (.mapIter a b c d)) :
    Sem.run P (setObj r o) w = .ok () (setO w r o) := by
  show Sem.run P (.setObj r o (.pure ())) w = _
  simp only [Sem.run, h]; rfl
theorem run_getObj_map (r : Nat) (es : Array MapEntry) (c : Nat) (h : w.heap[r]? = some (.map es c)) :
    Sem.run P (getObj r) w = .ok (.map es c) w := by
  show Sem.run P (.getObj r .pure) w = _
  simp only [Sem.run, h]
theorem run_getObj_iter (r : Nat) (a : Option Nat) (b : Nat) (c : Array Nat) (d : Nat) (h : w.heap[r]? = some (.mapIter a b c d)) :
    Sem.run P (getObj r) w = .ok (.mapIter a b c d) w := by
  show Sem.run P (.getObj r .pure) w = _
  simp only [Sem.run, h]
theorem run_checkKey_string (e : Bool) (n : Nat) (kt : TypeId) (k : ByteArray) (hk : P.underlying kt = some .string) :
    Sem.run P (Instr.checkKey e (n + 1) kt (.string k)) w = .ok () w := by
  unfold Instr.checkKey
  rw [Sem.run_bind, run_underlying hk w]
  rfl
theorem run_findKey_string (kt : TypeId) (k : ByteArray) (es : List MapEntry) (r : Option (Nat × Value)) (hk : P.underlying kt = some .string)
    (h : Instr.findNow .string (.string k) es 0 = some r) : Sem.run P (Instr.findKey kt (.string k) es) w = .ok r w := by
  unfold Instr.findKey
  rw [Sem.run_bind, run_underlying hk w]
  simp only [Result.andThen_ok, h]
  rfl
theorem run_mapUpdate_new (mty kt et : TypeId) (r : Nat) (es : Array MapEntry) (clock : Nat) (k : ByteArray) (val : Value) (hm : P.underlying mty = some (.map kt et))
    (hk : P.underlying kt = some .string) (hb : w.heap[r]? = some (.map es clock)) (hn : Instr.findNow .string (.string k) es.toList 0 = some none) :
    Sem.run P (Instr.mapUpdate mty (.map (some r)) (.string k) val) w = .ok () (setO w r (.map (es.push ⟨.string k, val, clock⟩) (clock + 1))) := by
  unfold Instr.mapUpdate
  simp only [Sem.run_bind, run_underlying hm w, Result.andThen_ok, run_getObj_map w r es clock hb, run_checkKey_string w false 9999 kt k hk, run_findKey_string w kt k es.toList none hk hn,
    run_setObj_map w r _ es clock hb]
theorem run_lookup_string (mty kt et : TypeId) (r : Nat) (es : Array MapEntry) (clock : Nat) (k : ByteArray) (i : Nat) (val : Value) (hm : P.underlying mty = some (.map kt et))
    (hk : P.underlying kt = some .string) (hb : w.heap[r]? = some (.map es clock)) (hn : Instr.findNow .string (.string k) es.toList 0 = some (some (i, val))) :
    Sem.run P (Instr.lookup mty (.map (some r)) (.string k) false) w = .ok val w := by
  unfold Instr.lookup
  simp only [Sem.run_bind, run_underlying hm w, Result.andThen_ok, run_getObj_map w r es clock hb, Sem.run_pure, run_checkKey_string w es.isEmpty 9999 kt k hk, run_findKey_string w kt k es.toList _ hk hn]
  rfl

variable (m r : Nat) (k0 k1 k2 v0 v1 v2 : Value)
def es3 : Array MapEntry := #[⟨k0, v0, 0⟩, ⟨k1, v1, 1⟩, ⟨k2, v2, 2⟩]
/-- Which entries have been met. -/
def Seen (l : Array Nat) : Prop := l = #[] ∨ l = #[0] ∨ l = #[1] ∨ l = #[2] ∨ l = #[0, 1] ∨ l = #[0, 2] ∨ l = #[1, 0] ∨ l = #[1, 2] ∨ l = #[2, 0] ∨ l = #[2, 1]
  ∨ l = #[0, 1, 2] ∨ l = #[0, 2, 1] ∨ l = #[1, 0, 2] ∨ l = #[1, 2, 0] ∨ l = #[2, 0, 1] ∨ l = #[2, 1, 0]
def key3 (i : Nat) : Value := if i = 0 then k0 else if i = 1 then k1 else k2
def Next3 (P : Program) (ty : TypeId) (l : Array Nat) : Prop :=
  (l.size = 3 ∧ Sem.run P (Instr.next (.pointer (some ⟨r, 0, none⟩)) false ty) w = .ok (.tuple #[.bool false]) w) ∨
  (∃ i n, i < 3 ∧ l.contains i = false ∧ Seen (l.push i) ∧ l.size < 3 ∧ Sem.run P (Instr.next (.pointer (some ⟨r, 0, none⟩)) false ty) w =
    .ok (.tuple #[.bool true, key3 k0 k1 k2 i, key3 v0 v1 v2 i]) (setO (w.drewN n) r (.mapIter (some m) 3 (l.push i) 3)))
def nextBody (l : Array Nat) (c : Array (Option MapEntry)) (k : Nat) : Sem Value :=
  match c[k]? with
  | some (some e) => do
    setObj r (.mapIter (some m) 3 (l.push e.born) 3)
    pure (.tuple #[.bool true, e.key, e.val])
  | some none => pure (.tuple #[.bool false])
  | none => stuck "Next: no such candidate"
theorem run_pick (f : Nat → Sem Value) (n : Nat) (hn : 0 < n) : ∃ k d, k < n ∧ Sem.run P (do f (← choose (.mapNext n))) w = Sem.run P (f k) (w.drewN d) := by
  by_cases h : n ≤ 1
  · obtain rfl : n = 1 := by omega
    exact ⟨0, 0, by omega, rfl⟩
  · refine ⟨(w.tape w.drawn (.mapNext n)) % n, 1, Nat.mod_lt _ hn, ?_⟩
    rw [Sem.run_bind]
    have : Sem.run P (choose (.mapNext n)) w = .ok ((w.tape w.drawn (.mapNext n)) % n) (w.drewN 1) := by
      show Sem.run P (.choose (.mapNext n) .pure) w = _
      simp only [Sem.run, Question.forced, decide_eq_true_eq, if_neg h]
      rfl
    rw [this]; rfl
theorem next_one (ty : TypeId) (l : Array Nat) (c : Array (Option MapEntry)) (hm : w.heap[m]? = some (.map (es3 k0 k1 k2 v0 v1 v2) 3)) (hr : w.heap[r]? = some (.mapIter (some m) 3 l 3))
    (hc : c = (let left := (es3 k0 k1 k2 v0 v1 v2).filter fun e => !l.contains e.born; (if (left.filter (·.born < 3)).isEmpty then #[none] else #[]) ++ ((left.filter (·.born < 3)) ++ (left.filter (·.born ≥ 3))).map some))
    (hn : 0 < c.size) :
    ∃ k d, k < c.size ∧ Sem.run P (Instr.next (.pointer (some ⟨r, 0, none⟩)) false ty) w = Sem.run P (nextBody m r l c k) (w.drewN d) := by
  obtain ⟨k, d, hk, h⟩ := run_pick (P := P) w (nextBody m r l c) c.size hn
  refine ⟨k, d, hk, ?_⟩
  rw [← h]
  subst hc
  unfold Instr.next
  simp only [Sem.run_bind, run_getObj_iter w r _ _ _ _ hr, Result.andThen_ok, run_getObj_map w m _ _ hm]
  have : (!l.isEmpty && !(es3 k0 k1 k2 v0 v1 v2).isEmpty && (es3 k0 k1 k2 v0 v1 v2).all (fun x => decide (x.born ≥ 3))) = false := by simp [es3]
  simp only [this, Bool.false_eq_true, if_false]
  first | rfl | (rw [Sem.run_bind]; rfl)
theorem body_hit (l : Array Nat) (c : Array (Option MapEntry)) (k d : Nat) (e : MapEntry) (h : c[k]? = some (some e)) (a : Option Nat) (b : Nat) (l' : Array Nat) (b' : Nat) (hr : w.heap[r]? = some (.mapIter a b l' b')) :
    Sem.run P (nextBody m r l c k) (w.drewN d) = .ok (.tuple #[.bool true, e.key, e.val]) (setO (w.drewN d) r (.mapIter (some m) 3 (l.push e.born) 3)) := by
  unfold nextBody
  rw [h]
  simp only [Sem.run_bind, run_setObj_iter (w.drewN d) r _ a b l' b' hr, Result.andThen_ok]
  rfl
theorem run_next3 (ty : TypeId) (l : Array Nat) (hl : Seen l) (hm : w.heap[m]? = some (.map (es3 k0 k1 k2 v0 v1 v2) 3)) (hr : w.heap[r]? = some (.mapIter (some m) 3 l 3)) :
    Next3 w m r k0 k1 k2 v0 v1 v2 P ty l := by
  have hit : ∀ (c : Array (Option MapEntry)), (hc : c = (let left := (es3 k0 k1 k2 v0 v1 v2).filter fun e => !l.contains e.born; (if (left.filter (·.born < 3)).isEmpty then #[none] else #[]) ++ ((left.filter (·.born < 3)) ++ (left.filter (·.born ≥ 3))).map some)) →
      0 < c.size → l.size < 3 → (∀ k, k < c.size → ∃ i, i < 3 ∧ l.contains i = false ∧ Seen (l.push i) ∧ c[k]? = some (some ⟨key3 k0 k1 k2 i, key3 v0 v1 v2 i, i⟩)) → Next3 w m r k0 k1 k2 v0 v1 v2 P ty l := by
    intro c hc hn hs h
    obtain ⟨k, d, hk, hrun⟩ := next_one (P := P) w m r k0 k1 k2 v0 v1 v2 ty l c hm hr hc hn
    obtain ⟨i, hi, hli, hS, hck⟩ := h k hk
    exact Or.inr ⟨i, d, hi, hli, hS, hs, hrun.trans (body_hit w m r l c k d _ hck _ _ _ _ hr)⟩
  have over : (hc : #[none] = (let left := (es3 k0 k1 k2 v0 v1 v2).filter fun e => !l.contains e.born; (if (left.filter (·.born < 3)).isEmpty then #[none] else #[]) ++ ((left.filter (·.born < 3)) ++ (left.filter (·.born ≥ 3))).map some)) →
      l.size = 3 → Next3 w m r k0 k1 k2 v0 v1 v2 P ty l := by
    intro hc hs
    left
    refine ⟨hs, ?_⟩
    unfold Instr.next
    simp only [Sem.run_bind, run_getObj_iter w r _ _ _ _ hr, Result.andThen_ok, run_getObj_map w m _ _ hm]
    have : (!l.isEmpty && !(es3 k0 k1 k2 v0 v1 v2).isEmpty && (es3 k0 k1 k2 v0 v1 v2).all (fun x => decide (x.born ≥ 3))) = false := by simp [es3]
    simp only [this, Bool.false_eq_true, if_false]
    simp only at hc
    rw [← hc]
    rfl
  have lt3 : ∀ k : Nat, k < 3 → k = 0 ∨ k = 1 ∨ k = 2 := by omega
  have lt2 : ∀ k : Nat, k < 2 → k = 0 ∨ k = 1 := by omega
  have lt1 : ∀ k : Nat, k < 1 → k = 0 := by omega
  rcases hl with rfl | rfl | rfl | rfl | rfl | rfl | rfl | rfl | rfl | rfl | rfl | rfl | rfl | rfl | rfl | rfl
  · exact hit #[some ⟨k0, v0, 0⟩, some ⟨k1, v1, 1⟩, some ⟨k2, v2, 2⟩] (by simp [es3]) (by simp) (by simp) (fun k hk => by
      rcases lt3 k hk with rfl | rfl | rfl
      · exact ⟨0, by simp [Seen, key3]⟩
      · exact ⟨1, by simp [Seen, key3]⟩
      · exact ⟨2, by simp [Seen, key3]⟩)
  · exact hit #[some ⟨k1, v1, 1⟩, some ⟨k2, v2, 2⟩] (by simp [es3]) (by simp) (by simp) (fun k hk => by
      rcases lt2 k hk with rfl | rfl
      · exact ⟨1, by simp [Seen, key3]⟩
      · exact ⟨2, by simp [Seen, key3]⟩)
  · exact hit #[some ⟨k0, v0, 0⟩, some ⟨k2, v2, 2⟩] (by simp [es3]) (by simp) (by simp) (fun k hk => by
      rcases lt2 k hk with rfl | rfl
      · exact ⟨0, by simp [Seen, key3]⟩
      · exact ⟨2, by simp [Seen, key3]⟩)
  · exact hit #[some ⟨k0, v0, 0⟩, some ⟨k1, v1, 1⟩] (by simp [es3]) (by simp) (by simp) (fun k hk => by
      rcases lt2 k hk with rfl | rfl
      · exact ⟨0, by simp [Seen, key3]⟩
      · exact ⟨1, by simp [Seen, key3]⟩)
  · exact hit #[some ⟨k2, v2, 2⟩] (by simp [es3]) (by simp) (by simp) (fun k hk => by rcases lt1 k hk with rfl; exact ⟨2, by simp [Seen, key3]⟩)
  · exact hit #[some ⟨k1, v1, 1⟩] (by simp [es3]) (by simp) (by simp) (fun k hk => by rcases lt1 k hk with rfl; exact ⟨1, by simp [Seen, key3]⟩)
  · exact hit #[some ⟨k2, v2, 2⟩] (by simp [es3]) (by simp) (by simp) (fun k hk => by rcases lt1 k hk with rfl; exact ⟨2, by simp [Seen, key3]⟩)
  · exact hit #[some ⟨k0, v0, 0⟩] (by simp [es3]) (by simp) (by simp) (fun k hk => by rcases lt1 k hk with rfl; exact ⟨0, by simp [Seen, key3]⟩)
  · exact hit #[some ⟨k1, v1, 1⟩] (by simp [es3]) (by simp) (by simp) (fun k hk => by rcases lt1 k hk with rfl; exact ⟨1, by simp [Seen, key3]⟩)
  · exact hit #[some ⟨k0, v0, 0⟩] (by simp [es3]) (by simp) (by simp) (fun k hk => by rcases lt1 k hk with rfl; exact ⟨0, by simp [Seen, key3]⟩)
  all_goals exact over (by simp [es3]) rfl
theorem run_entry3 (i : Nat) (hi : i < 3) (l : Array Nat) (hm : w.heap[m]? = some (.map (es3 k0 k1 k2 v0 v1 v2) 3)) (hr : w.heap[r]? = some (.mapIter (some m) 3 (l.push i) 3)) :
    Sem.run P (Instr.entry (.pointer (some ⟨r, 0, none⟩))) w = .ok (.tuple #[key3 k0 k1 k2 i, key3 v0 v1 v2 i]) w := by
  unfold Instr.entry
  simp only [Sem.run_bind, run_getObj_iter w r _ _ _ _ hr, Result.andThen_ok, run_getObj_map w m _ _ hm, Array.back?_push]
  have lt3 : i = 0 ∨ i = 1 ∨ i = 2 := by omega
  rcases lt3 with rfl | rfl | rfl <;> simp [es3, key3] <;> rfl
end
end Go.Proofs.YtancmkdmlghlpaaGreatDoor
