/- Each operation, all together: 'opEv' is right. No statement is proved here. -/
import Derived.Test.YtancmkdmlghlpaaGreatDoorEvD
import Derived.Laws.NewFold
import Derived.Laws.MakeOwn
import Derived.Laws.Append
import Derived.Great.BuildSlice
namespace Go.Proofs.YtancmkdmlghlpaaGreatDoor.Ev
open Go
section
variable {c : Cx} {v : Env} {ρ : Rho} {s : St} {w : World} {fr : List SV} {a : Act} {o : Oper} {p : Path} {r : Rs}
theorem exec_val {S : Sem Value} {V : Value} {w' : World} (he : execOp a.eval o = (do pure (.value (← S)) : Sem Next)) (h : S.run c.P w = .ok V w') : (execOp a.eval o).run c.P w = .ok (.value V) w' := by
  rw [he]; simp [h]
theorem val_ok' {S : Sem Value} {V : Value} {x : SV} (hR : Rep c ρ v s w) (he : execOp a.eval o = (do pure (.value (← S)) : Sem Next)) (h : S.run c.P w = .ok V w) (hx : x.den ρ v = some V) : OpOk c v ρ w a.eval o (.val x s) :=
  val_ok hR (exec_val he h) hx
theorem den_new {v : Env} (hR : Rep c ρ v s w) : (SV.ptr s.length 0).den (ρ ++ [(w.heap.size, 0)]) v = some (.pointer (some ⟨w.heap.size, 0, none⟩)) := by
  simp [SV.den, hR.len]
theorem alloc_ok (hR : Rep c ρ v s w) {t : TypeId} (ho : o.op = .alloc t) {z : List SV} (hz : zeroCells c.P t = some z) : OpOk c v ρ w a.eval o (.val (.ptr s.length 0) (s ++ [.row z t])) := by
  obtain ⟨i, zv, h1, h2, h3⟩ := zeroCells_ok hz
  obtain ⟨hR', hO⟩ := hR.alloc (ty := t) h3
  refine ⟨_, _, _, ?_, hO, hR', den_new hR⟩
  unfold execOp
  simp only [ho, Sem.run_bind, Instr.alloc, zeroValue, typeInfo, newVar, newRow, run_newObj_alloc, Sem.run_pure, Result.andThen_ok]
  simp [h1, h2]
theorem box_ok (hR : Rep c ρ v s w) {t : TypeId} {x : Operand} (ho : o.op = .box t x) {y : SV} (hy : y.den ρ v = some (a.eval x)) : OpOk c v ρ w a.eval o (.val (.ptr s.length 0) (s ++ [.row y.cells t])) := by
  obtain ⟨hR', hO⟩ := hR.alloc (ty := t) (den_cells hy)
  refine ⟨_, _, _, ?_, hO, hR', den_new hR⟩
  unfold execOp
  simp only [ho, Sem.run_bind, Instr.box, newVar, newRow, run_newObj_alloc, Sem.run_pure, Result.andThen_ok]
theorem build_struct (hR : Rep c ρ v s w) {t : TypeId} {parts : Array (Nat × Operand)} (ho : o.op = .build t parts) {z l : List SV} {ps : List (Nat × SV)} (hz : zeroCells c.P t = some z)
    (hps : PairsOk ρ v ps (parts.toList.map fun (i, x) => (i, a.eval x))) {fs : Array Field} (hu : c.P.underlying t = some (.struct fs)) {pl : List (Nat × Nat)} (hpl : placesOf c.P fs.toList = some pl) (h : fillSV (fun i => pl[i]?) z ps = some l) :
    OpOk c v ρ w a.eval o (.val (.agg l) s) := by
  obtain ⟨i, zv, h1, h2, h3⟩ := zeroCells_ok (ρ := ρ) (v := v) hz
  obtain ⟨L', h4, h5⟩ := fill_ok hps h3 h
  refine val_ok' hR (S := Instr.build t (parts.map fun (i, x) => (i, a.eval x))) (by unfold execOp; simp only [ho]) (run_build w t _ L'.toArray ?_) (by simp [SV.den, h5])
  unfold Program.built
  simp only [h1, h2, hu, placesOf_ok hpl]
  simpa using h4
theorem build_array (hR : Rep c ρ v s w) {t : TypeId} {parts : Array (Nat × Operand)} (ho : o.op = .build t parts) {z l : List SV} {ps : List (Nat × SV)} (hz : zeroCells c.P t = some z)
    (hps : PairsOk ρ v ps (parts.toList.map fun (i, x) => (i, a.eval x))) {n : Nat} {e : TypeId} (hu : c.P.underlying t = some (.array n e)) {m : Nat} (hm : sizeB c.P e = some m) (h : fillSV (fun i => some (i * m, m)) z ps = some l) :
    OpOk c v ρ w a.eval o (.val (.agg l) s) := by
  obtain ⟨i, zv, h1, h2, h3⟩ := zeroCells_ok (ρ := ρ) (v := v) hz
  obtain ⟨L', h4, h5⟩ := fill_ok hps h3 h
  refine val_ok' hR (S := Instr.build t (parts.map fun (i, x) => (i, a.eval x))) (by unfold execOp; simp only [ho]) (run_build w t _ L'.toArray ?_) (by simp [SV.den, h5])
  simp only [sizeB, Option.map_eq_some_iff] at hm
  obtain ⟨ie, hie, rfl⟩ := hm
  unfold Program.built
  simp only [h1, h2, hu, hie]
  simpa using h4
theorem un_ok (hR : Rep c ρ v s w) {op : UnOp} {t : TypeId} {x : Operand} (ho : o.op = .unOp op t x) {y : SV} (hy : y.den ρ v = some (a.eval x)) (h : (unSV op s y).pick v = some r) : OpOk c v ρ w a.eval o r := by
  unfold unSV at h
  have he : execOp a.eval o = (do pure (.value (← Op.unary op (a.eval x))) : Sem Next) := by unfold execOp; simp only [ho]
  split at h
  · rename_i k e
    rw [pick_okV h]
    simp only [SV.den, Option.some.injEq] at hy
    rw [← hy] at he
    exact val_ok' hR he (V := .int k (binI .sub k 0 (e.i v))) rfl (by simp only [SV.den, mkBin_i, E.i])
  · rename_i k e
    rw [pick_okV h]
    simp only [SV.den, Option.some.injEq] at hy
    rw [← hy] at he
    exact val_ok' hR he (V := .int k (binI .xor k (if k.signed then -1 else k.max) (e.i v))) rfl (by simp only [SV.den, mkBin_i, E.i])
  · rename_i e
    rw [pick_okV h]
    simp only [SV.den, Option.some.injEq] at hy
    rw [← hy] at he
    exact val_ok' hR he (V := .bool (!(e.b v))) rfl (by simp only [SV.den, mkNot_b])
  · exact (pick_bad h).elim
theorem ptr_add {b o n : Nat} : (.pointer (some ((⟨b, o, none⟩ : Addr).add n)) : Value) = .pointer (some ⟨b, o + n, none⟩) := by rw [add_mid]
theorem fieldAddr_ok (hR : Rep c ρ v s w) {t : TypeId} {x : Operand} {f : Nat} (ho : o.op = .fieldAddr t x f) {y z : SV} (hy : y.den ρ v = some (a.eval x)) {fs : Array Field} (hu : c.P.underlying t = some (.struct fs)) {fd : Field} (hf : fs[f]? = some fd)
    {m : Nat} (hm : sizeB c.P fd.type = some m) (hm0 : ¬ m = 0) (hz : offBy y fd.offset = some z) : OpOk c v ρ w a.eval o (.val z s) := by
  obtain ⟨b, off, e1, e2⟩ := offBy_ok hy hz
  refine val_ok' hR (S := Instr.fieldAt t (a.eval x) f) (by unfold execOp; simp only [ho]) ?_ e2
  simp only [Instr.fieldAt, Sem.run_bind, run_underlying hu, Result.andThen_ok, hf, e1, Instr.sureAddr, Sem.run_pure, fieldPlace, sizeB_ok hm]
  rw [if_neg hm0]
  simp [add_mid]
theorem field_ok (hR : Rep c ρ v s w) {t : TypeId} {x : Operand} {f : Nat} (ho : o.op = .field t x f) {l : List SV} {z : SV} (hy : (SV.agg l).den ρ v = some (a.eval x)) {fs : Array Field} (hu : c.P.underlying t = some (.struct fs)) {fd : Field} (hf : fs[f]? = some fd)
    (hz : partSV c.P fd.type l fd.offset = some z) : OpOk c v ρ w a.eval o (.val z s) := by
  simp only [SV.den, Option.map_eq_some_iff] at hy
  obtain ⟨L, hL, hA⟩ := hy
  obtain ⟨V, h1, h2⟩ := part_ok hL hz w
  refine val_ok' hR (S := Instr.field t (a.eval x) f) (by unfold execOp; simp only [ho]) ?_ h2
  simp only [Instr.field, Sem.run_bind, run_underlying hu, Result.andThen_ok, hf, ← hA, asAgg, Sem.run_pure, h1]
theorem bound_true {i : Int} {n : Nat} (h : 0 ≤ i ∧ i < n) : (0 ≤ i ∧ i < (n : Int)) := h
theorem indexAddr_ok (hR : Rep c ρ v s w) (hp : PathOk v p) {t : TypeId} {x ix : Operand} (ho : o.op = .indexAddr t x ix) {y iy : SV} (hy : y.den ρ v = some (a.eval x)) (hi : iy.den ρ v = some (a.eval ix))
    (h : (indexAddrSV c t p s y iy).pick v = some r) : OpOk c v ρ w a.eval o r := by
  unfold indexAddrSV at h
  have he : execOp a.eval o = (do pure (.value (← Instr.indexAt t (a.eval x) (a.eval ix))) : Sem Next) := by unfold execOp; simp only [ho]
  split at h
  case h_2 => exact (pick_bad h).elim
  rename_i k e
  simp only [SV.den, Option.some.injEq] at hi
  rw [← hi] at he
  split at h
  · -- array
    rename_i len elem hu
    have key : ∀ {b off m : Nat} {z : SV}, sizeB c.P elem = some m → a.eval x = .pointer (some ⟨b, off, none⟩) → (0 ≤ e.i v ∧ e.i v < len) → z.den ρ v = some (.pointer (some ⟨b, off + (e.i v).toNat * m, none⟩)) → OpOk c v ρ w a.eval o (.val z s) := by
      intro b off m z hm hx hb hz
      rw [hx] at he
      refine val_ok' hR he ?_ hz
      simp only [Instr.indexAt, asIntOf, Sem.run_bind, Sem.run_pure, Result.andThen_ok, run_underlying hu, Instr.sureAddr]
      rw [if_pos hb]
      simp [sizeB_ok hm, add_mid]
    split at h
    · rename_i m n off hm
      simp only [SV.den, Option.map_eq_some_iff] at hy
      obtain ⟨b, hb, hA⟩ := hy
      split at h
      · rename_i i
        split at h
        · rename_i hb2
          rw [pick_okV h]
          exact key hm hA.symm hb2 (by simp [SV.den, hb, E.i])
        · exact (pick_bad h).elim
      · obtain ⟨p', hp', h | h⟩ := pick_mkIf hp h
        · obtain ⟨hc, h⟩ := h
          rw [mkInr_b] at hc
          have hb2 := of_decide_eq_true hc
          rw [pick_okV h]
          exact key hm hA.symm hb2 (by simp [SV.den, hb])
        · exact (pick_bad h.2).elim
    · rename_i m n off st cnt f hm
      simp only [SV.den, Option.map_eq_some_iff] at hy
      obtain ⟨b, hb, hA⟩ := hy
      split at h
      · rename_i i
        split at h
        · rename_i hb2
          rw [pick_okV h]
          refine key hm hA.symm hb2 ?_
          simp only [SV.den, hb, E.i, Option.map_some, Option.some.injEq, Value.pointer.injEq, Addr.mk.injEq, and_true, true_and]
          omega
        · exact (pick_bad h).elim
      · exact (pick_bad h).elim
    · exact (pick_bad h).elim
  · -- slice
    rename_i elem hu
    have key : ∀ {b off m len cap : Nat} {z : SV}, sizeB c.P elem = some m → a.eval x = .slice (some ⟨b, off, none⟩) len cap → (0 ≤ e.i v ∧ e.i v < len) → z.den ρ v = some (.pointer (some ⟨b, off + (e.i v).toNat * m, none⟩)) → OpOk c v ρ w a.eval o (.val z s) := by
      intro b off m len cap z hm hx hb hz
      rw [hx] at he
      refine val_ok' hR he ?_ hz
      simp only [Instr.indexAt, asIntOf, Sem.run_bind, Sem.run_pure, Result.andThen_ok, run_underlying hu]
      rw [if_pos hb]
      simp [sizeB_ok hm, add_mid]
    split at h
    · rename_i m n off len cap hm
      simp only [SV.den, Option.map_eq_some_iff] at hy
      obtain ⟨b, hb, hA⟩ := hy
      split at h
      · rename_i i
        split at h
        · rename_i hb2
          rw [pick_okV h]
          exact key hm hA.symm hb2 (by simp [SV.den, hb, E.i])
        · exact (pick_bad h).elim
      · obtain ⟨p', hp', h | h⟩ := pick_mkIf hp h
        · obtain ⟨hc, h⟩ := h
          rw [mkInr_b] at hc
          have hb2 := of_decide_eq_true hc
          rw [pick_okV h]
          exact key hm hA.symm hb2 (by simp [SV.den, hb])
        · exact (pick_bad h.2).elim
    · rename_i m n off len hm
      simp only [SV.den, Option.map_eq_some_iff, E.i] at hy
      obtain ⟨b, hb, hA⟩ := hy
      split at h
      · rename_i i
        split at h
        · rename_i hb2
          rw [pick_okV h]
          exact key hm hA.symm (by simp only [E.i]; omega) (by simp [SV.den, hb, E.i])
        · exact (pick_bad h).elim
      · obtain ⟨p', hp', h | h⟩ := pick_mkIf hp h
        · obtain ⟨hc, h⟩ := h
          rw [mkInr_b] at hc
          have hb2 := of_decide_eq_true hc
          simp only [E.i] at hb2
          rw [pick_okV h]
          exact key hm hA.symm (by omega) (by simp [SV.den, hb])
        · exact (pick_bad h.2).elim
    · rename_i n off len _ hm
      simp only [SV.den, Option.map_eq_some_iff] at hy
      obtain ⟨b, hb, hA⟩ := hy
      split at h
      case isFalse => exact (pick_bad h).elim
      rename_i hlen
      have hl0 := decideP_ok hp hlen
      rw [mkCmp0_b] at hl0
      have hl1 : ¬ len.i v < 0 := of_decide_eq_false hl0
      obtain ⟨p', hp', h | h⟩ := pick_mkIf hp h
      · obtain ⟨hc, h⟩ := h
        rw [mkInr_b] at hc
        have hb2 := of_decide_eq_true hc
        rw [pick_okV h]
        exact key hm hA.symm (by omega) (by simp [SV.den, hb])
      · exact (pick_bad h.2).elim
    · rename_i n off len cap hm
      simp only [SV.den, Option.map_eq_some_iff] at hy
      obtain ⟨b, hb, hA⟩ := hy
      split at h
      case isFalse => exact (pick_bad h).elim
      rename_i hlen
      have hl0 := decideP_ok hp hlen
      rw [mkCmp0_b] at hl0
      have hl1 : ¬ len.i v < 0 := of_decide_eq_false hl0
      obtain ⟨p', hp', h | h⟩ := pick_mkIf hp h
      · obtain ⟨hc, h⟩ := h
        rw [mkInr_b] at hc
        have hb2 := of_decide_eq_true hc
        rw [pick_okV h]
        exact key hm hA.symm (by omega) (by simp [SV.den, hb])
      · exact (pick_bad h.2).elim
    · exact (pick_bad h).elim
  · exact (pick_bad h).elim
theorem index_ok (hR : Rep c ρ v s w) (hp : PathOk v p) {t : TypeId} {x ix : Operand} (ho : o.op = .index t x ix) {y iy : SV} (hy : y.den ρ v = some (a.eval x)) (hi : iy.den ρ v = some (a.eval ix))
    (h : (indexSV c t p s y iy).pick v = some r) : OpOk c v ρ w a.eval o r := by
  unfold indexSV at h
  have he : execOp a.eval o = (do pure (.value (← Instr.index t (a.eval x) (a.eval ix))) : Sem Next) := by unfold execOp; simp only [ho]
  split at h
  · rename_i k e l
    simp only [SV.den, Option.some.injEq, Option.map_eq_some_iff] at hi hy
    obtain ⟨L, hL, hA⟩ := hy
    rw [← hi, ← hA] at he
    split at h
    case h_2 => exact (pick_bad h).elim
    rename_i len elem hu
    split at h
    case h_2 => exact (pick_bad h).elim
    rename_i m hm
    have key : ∀ {V : Value}, (0 ≤ e.i v ∧ e.i v < len) → (part elem L.toArray ((e.i v).toNat * m)).run c.P w = .ok V w → (Instr.index t (.agg L.toArray) (.int k (e.i v))).run c.P w = .ok V w := by
      intro V hb hV
      simp only [Instr.index, asIntOf, Sem.run_bind, Sem.run_pure, Result.andThen_ok, run_underlying hu]
      rw [if_pos hb]
      simp [sizeB_ok hm, hV]
    split at h
    · rename_i i
      split at h
      case isFalse => exact (pick_bad h).elim
      rename_i hb
      split at h
      case h_2 => exact (pick_bad h).elim
      rename_i z hz
      obtain ⟨V, h1, h2⟩ := part_ok hL hz w
      rw [pick_okV h]
      exact val_ok' hR he (key hb h1) h2
    · obtain ⟨p', hp', hq | hq⟩ := pick_mkIf hp h
      · clear h
        obtain ⟨hc, h⟩ := hq
        rw [mkInr_b] at hc
        have hb := of_decide_eq_true hc
        simp only [E.i] at hb
        split at h
        · exact (pick_bad h).elim
        · rename_i d hd
          split at h
          · exact (pick_bad h).elim
          · rename_i hrow
            split at h
            case isFalse => exact (pick_bad h).elim
            rename_i hml
            obtain ⟨rfl, hll⟩ := hml
            split at h
            case h_2 => exact (pick_bad h).elim
            rename_i z hz
            rw [pick_okV h]
            have hlt : (e.i v).toNat < l.length := by omega
            obtain ⟨V, hV, hden⟩ := denL_get (x := l[(e.i v).toNat]) (i := (e.i v).toNat) hL (by simp [hlt])
            refine val_ok' hR he (V := V) (key hb ?_) (by rw [selSV_ok hb.1 hz (x := l[(e.i v).toNat]) (by simp [hlt])]; exact hden)
            have hrow' : d.isRow = false := by simpa using hrow
            simp only [part, Sem.run_bind, isAgg_run hd w, Result.andThen_ok, hrow', Bool.false_eq_true, if_false, List.getElem?_toArray, Nat.mul_one, hV, Sem.run_pure]
      · exact (pick_bad hq.2).elim
  · rename_i k i b
    simp only [SV.den, Option.some.injEq, E.i] at hi hy
    rw [← hi, ← hy] at he
    split at h
    case h_2 => exact (pick_bad h).elim
    rename_i hu
    split at h
    case isFalse => exact (pick_bad h).elim
    rename_i h0
    split at h
    case h_2 => exact (pick_bad h).elim
    rename_i z hz
    rw [pick_okV h]
    refine val_ok' hR he (V := .int .u8 z.toNat) ?_ (by simp [SV.den, E.i])
    simp only [Instr.index, asIntOf, Sem.run_bind, Sem.run_pure, Result.andThen_ok, run_underlying hu]
    have : (⟨b.toArray⟩ : ByteArray)[i.toNat]? = some z := by
      have h1 := List.getElem?_eq_some_iff.1 hz
      obtain ⟨h2, h3⟩ := h1
      have h4 : i.toNat < (⟨b.toArray⟩ : ByteArray).size := by simpa [ByteArray.size] using h2
      rw [getElem?_pos (⟨b.toArray⟩ : ByteArray) i.toNat h4]
      exact congrArg some h3
    rw [if_pos h0, this]; rfl
  · exact (pick_bad h).elim
theorem repL_den : ∀ (n : Nat) {l : List SV} {L : List Value}, SV.denL ρ v l = some L → SV.denL ρ v (repL n l) = some (repL n L)
  | 0, _, _, _ => rfl
  | n + 1, _, _, h => denL_append h (repL_den n h)
theorem repL_length {α : Type} : ∀ (n : Nat) (l : List α), (repL n l).length = n * l.length
  | 0, l => by simp [repL]
  | n + 1, l => by simp only [repL, List.length_append, repL_length n l, Nat.add_mul]; omega
theorem repL_get {α : Type} : ∀ (n : Nat) (l : List α) (i : Nat), i < n * l.length → (repL n l)[i]? = l[i % l.length]?
  | 0, l, i, h => by omega
  | n + 1, l, i, h => by
    simp only [repL]
    by_cases hi : i < l.length
    · rw [List.getElem?_append_left hi, Nat.mod_eq_of_lt hi]
    · rw [List.getElem?_append_right (by omega), repL_get n l _ (by rw [Nat.add_mul] at h; omega)]
      congr 1
      exact (Nat.mod_eq_sub_mod (by omega)).symm
theorem zeros_eq (z : Array Value) (n : Nat) : ((Array.range (n * z.size)).map (z[· % z.size]!)) = (repL n z.toList).toArray := by
  apply Array.ext_getElem?
  intro i
  rw [Array.getElem?_map, Array.getElem?_range]
  by_cases hi : i < n * z.size
  · have hz : 0 < z.size := by
      rcases Nat.eq_zero_or_pos z.size with h | h
      · rw [h] at hi; omega
      · exact h
    have hm : i % z.size < z.size := Nat.mod_lt _ hz
    rw [if_pos hi, List.getElem?_toArray, repL_get _ _ _ (by simpa using hi)]
    simp [hm, getElem!_pos]
  · rw [if_neg hi, Option.map_none, List.getElem?_toArray, eq_comm, List.getElem?_eq_none_iff, repL_length]
    simp; omega
theorem buildSlice_ok (hR : Rep c ρ v s w) {t : TypeId} {len : Nat} {parts : Array (Nat × Operand)} (ho : o.op = .buildSlice t len parts) {ps : List (Nat × SV)} (hps : PairsOk ρ v ps (parts.toList.map fun (i, x) => (i, a.eval x)))
    (h : (buildSliceSV c s t len ps).pick v = some r) : OpOk c v ρ w a.eval o r := by
  unfold buildSliceSV at h
  split at h
  case h_2 => exact (pick_bad h).elim
  rename_i e hu
  split at h
  case h_2 => exact (pick_bad h).elim
  rename_i i hi
  split at h
  case h_2 => exact (pick_bad h).elim
  rename_i z hz
  split at h
  case h_2 => exact (pick_bad h).elim
  rename_i zs hzs
  split at h
  case isFalse => exact (pick_bad h).elim
  rename_i hc
  obtain ⟨h1, h2, h3, h4⟩ := hc
  split at h
  case h_2 => exact (pick_bad h).elim
  rename_i l hl
  rw [pick_okV h]
  have hzd := ofValL_ok (ρ := ρ) (v := v) hzs
  have hzl : z.cells.size = i.size := by have := denL_length hzd; simp at this; omega
  obtain ⟨L', h5, h6⟩ := fill_ok hps (repL_den len hzd) hl
  obtain ⟨hR', hO⟩ := hR.alloc (ty := e) h6
  have hpos : 0 < len * i.size := Nat.mul_pos h2 h1
  refine ⟨_, _, _, exec_val (S := Instr.buildSlice t len (parts.map fun (i, x) => (i, a.eval x))) (by unfold execOp; simp only [ho]) (run_buildSlice w t e len _ L'.toArray i z hu hi hz (by omega) (by omega) ?_), hO, hR', ?_⟩
  · have hze := zeros_eq z.cells len
    rw [hzl] at hze
    rw [hzl, hze]
    simpa using h5
  · simp [SV.den, hR.len]
theorem makeSlice_ok (hR : Rep c ρ v s w) {t : TypeId} {x y : Operand} (ho : o.op = .makeSlice t x y) {x' y' : SV} (hx : x'.den ρ v = some (a.eval x)) (hy : y'.den ρ v = some (a.eval y))
    (h : (makeSliceSV c s t x' y').pick v = some r) : OpOk c v ρ w a.eval o r := by
  unfold makeSliceSV at h
  split at h
  case h_2 => exact (pick_bad h).elim
  rename_i e kl l kc k hu
  simp only [SV.den, Option.some.injEq, E.i] at hx hy
  split at h
  case h_2 => exact (pick_bad h).elim
  rename_i i hi
  split at h
  case h_2 => exact (pick_bad h).elim
  rename_i z hz
  split at h
  case h_2 => exact (pick_bad h).elim
  rename_i zs hzs
  split at h
  case isFalse => exact (pick_bad h).elim
  rename_i hc
  obtain ⟨h1, h2, h3, h3b, h4, h5⟩ := hc
  rw [pick_okV h]
  have hzd := ofValL_ok (ρ := ρ) (v := v) hzs
  have hzl : z.cells.size = i.size := by have := denL_length hzd; simp at this; omega
  have hrep := repL_den k.toNat hzd
  obtain ⟨hR', hO⟩ := hR.alloc (ty := e) hrep
  have hze := zeros_eq z.cells k.toNat
  have hbytes : (i.bytes : Int) * k ≤ 281474976710656 := by
    have : (i.bytes : Int) * k ≤ 10000 * 100000 := Int.mul_le_mul (by omega) (by omega) (by omega) (by omega)
    omega
  have hrun := run_make (P := c.P) w t e i z hu hi hz kl kc l k h1 h2 hbytes (by omega)
  rw [hx, hy] at hrun
  refine ⟨.slice (some ⟨w.heap.size, 0, none⟩) l.toNat k.toNat, _, _, exec_val (S := Instr.makeSlice t (a.eval x) (a.eval y)) (by unfold execOp; simp only [ho]) (hrun.trans ?_), hO, hR', ?_⟩
  · congr 3
    rw [← hze]
    unfold madeCells
    rw [hzl]
    try rfl
  · simp [SV.den, hR.len]
/-- The cells of a slice of known length: where they lie. -/
theorem sliceCells_ok (hR : Rep c ρ v s w) {m : Nat} {x : SV} {X : Value} (hx : x.den ρ v = some X) {n : Nat} {l : List SV} (h : sliceCells s m x = some (n, l)) :
    ∃ L : List Value, SV.denL ρ v l = some L ∧ L.length = n * m ∧ ((X = .slice none 0 0 ∧ n = 0) ∨ ∃ ad cap, X = .slice (some ad) n cap ∧ ∀ j V, L[j]? = some V → w.cell? (ad.add j) = some V) := by
  have key : ∀ {k off len : Nat} {cs : List SV} {ty : TypeId} {b : Nat × Nat}, s[k]? = some (.row cs ty) → ρ[k]? = some b → off + len * m ≤ cs.length → ∃ L : List Value, SV.denL ρ v ((cs.drop off).take (len * m)) = some L ∧ L.length = len * m ∧ ∀ j V, L[j]? = some V → w.cell? ((⟨b.1, off, none⟩ : Addr).add j) = some V := by
    intro k off len cs ty b hs hb hle
    obtain ⟨L, X, hL, hw⟩ := row_of hR hb hs
    have := denL_length hL
    refine ⟨_, denL_take _ (denL_drop off hL), by simp; omega, fun j V hj => ?_⟩
    rw [add_mid]
    exact range_at hw off (len * m) j V hj
  unfold sliceCells at h
  split at h
  · simp at h
    obtain ⟨rfl, rfl⟩ := h
    simp only [SV.den, Option.some.injEq] at hx
    exact ⟨[], rfl, by simp, .inl ⟨hx.symm, rfl⟩⟩
  · rename_i k off len cap
    simp only [SV.den, Option.map_eq_some_iff] at hx
    obtain ⟨b, hb, rfl⟩ := hx
    split at h
    case h_2 => simp at h
    rename_i cs ty hs
    split at h
    case isFalse => simp at h
    rename_i hle
    simp at h
    obtain ⟨rfl, rfl⟩ := h
    obtain ⟨L, h1, h2, h3⟩ := key hs hb hle
    exact ⟨L, h1, h2, .inr ⟨_, _, rfl, h3⟩⟩
  · rename_i k off len
    simp only [SV.den, Option.map_eq_some_iff, E.i] at hx
    obtain ⟨b, hb, rfl⟩ := hx
    split at h
    case h_2 => simp at h
    rename_i cs ty hs
    split at h
    case isFalse => simp at h
    rename_i hle
    simp at h
    obtain ⟨rfl, rfl⟩ := h
    obtain ⟨L, h1, h2, h3⟩ := key hs hb hle.2
    exact ⟨L, h1, h2, .inr ⟨_, _, rfl, h3⟩⟩
  · simp at h
theorem upperP_ok {e : E} : ∀ {p : Path} {K : Int}, PathOk v p → upperP e p = some K → e.i v ≤ K
  | [], K, _, h => by simp [upperP] at h
  | (d, b) :: p, K, hp, h => by
    have hp' : PathOk v p := fun x hx => hp x (by simp [hx])
    unfold upperP at h
    split at h
    · cases h
    · rename_i k f p0 heq
      simp only [List.cons.injEq, Prod.mk.injEq] at heq
      obtain ⟨⟨rfl, rfl⟩, rfl⟩ := heq
      cases hf : E.eqb f e
      · simp only [hf, cond_false] at h; exact upperP_ok hp' h
      · simp only [hf, cond_true, Option.some.injEq] at h
        have := E.eq_of_eqb hf
        subst this h
        have h1 : cmpB .lss k (f.i v) = false := hp (.cmp .lss (.lit k) f, false) (by simp)
        have h2 : ¬ k < f.i v := of_decide_eq_false h1
        omega
    · rename_i heq
      simp only [List.cons.injEq] at heq
      obtain ⟨_, rfl⟩ := heq
      exact upperP_ok hp' h
theorem drew_eq (w : World) : w.drew = { w with drawn := w.drawn + 1 } := rfl
theorem Rep.drew (hR : Rep c ρ v s w) : Rep c ρ v s w.drew := hR.drawn _
theorem out_drew {ρ' : Rho} {w' : World} (h : Out ρ w.drew ρ' w') : Out ρ w ρ' w' := ⟨h.ext, h.keeps.os, h.keeps.tape, h.keeps.output, h.keeps.size, h.keeps.heap, h.keeps.shape⟩
theorem append_ok (hR : Rep c ρ v s w) (hp : PathOk v p) {t : TypeId} {args : Array Operand} (_ho : o.op = .call ⟨.builtin .append, args, #[t, t]⟩) {x y : SV} {X Y : Value} (hargs : args.map a.eval = #[X, Y]) (hx : x.den ρ v = some X) (hy : y.den ρ v = some Y)
    (hrunB : ∀ {V : Value} {w' : World}, (Builtin.append_ #[t, t] o.type #[X, Y]).run c.P w = .ok V w' → (execOp a.eval o).run c.P w = .ok (.value V) w') (h : (appendSV c s p t x y).pick v = some r) : OpOk c v ρ w a.eval o r := by
  unfold appendSV at h
  split at h
  case h_2 => exact (pick_bad h).elim
  rename_i e hu
  split at h
  case h_2 => exact (pick_bad h).elim
  rename_i i hi
  split at h
  case h_2 => exact (pick_bad h).elim
  rename_i z hz
  -- a new block
  have fresh : ∀ {b : Blk} {ob : Obj} {q : Nat} {V : Value} {sv : SV}, (execOp a.eval o).run c.P w = .ok (.value V) (w.drew.alloc ob) → b.holds ρ v ob → sv.den (ρ ++ [(w.heap.size, q)]) v = some V → OpOk c v ρ w a.eval o (.val sv (s ++ [b])) := by
    intro b ob q V sv h1 h2 h3
    obtain ⟨e1, e2⟩ := hR.drew.alloc' q h2
    exact ⟨V, _, _, h1, out_drew e2, e1, h3⟩
  -- onto nil, from known cells
  have nilK : ∀ {n : Nat} {l : List SV}, X = .slice none 0 0 → sliceCells s i.size y = some (n, l) →
      (if 0 < n ∧ n * i.bytes ≤ 1000000 ∧ n ≤ 1000000 then okV (.slicec s.length 0 (.lit n)) (s ++ [.row l e]) else if n = 0 then okV .nilslice s else bad 135).pick v = some r ∨
      (if 0 < n ∧ n * i.bytes ≤ 1000000 ∧ n ≤ 1000000 then okV (.slicec s.length 0 (.lit n)) (s ++ [.row l e]) else if n = 0 then okV .nilslice s else bad 137).pick v = some r → OpOk c v ρ w a.eval o r := by
    intro n l hX hsc hq
    have hq' : (if 0 < n ∧ n * i.bytes ≤ 1000000 ∧ n ≤ 1000000 then okV (.slicec s.length 0 (.lit n)) (s ++ [.row l e]) else if n = 0 then okV .nilslice s else bad 135).pick v = some r := by
      rcases hq with hq | hq
      · exact hq
      · split at hq
        · rename_i hc; rw [if_pos hc]; exact hq
        · rename_i hc
          split at hq
          · rename_i hc2; rw [if_neg hc, if_pos hc2]; exact hq
          · exact (pick_bad hq).elim
    obtain ⟨L, h1, h2, h3⟩ := sliceCells_ok hR hy hsc
    split at hq'
    · rename_i hc
      obtain ⟨c1, c2, c3⟩ := hc
      rcases h3 with ⟨_, rfl⟩ | ⟨ad, cap, rfl, h4⟩
      · omega
      · rw [pick_okV hq']
        subst hX
        have hrun := run_append_nil (P := c.P) w t o.type e i z hu hi hz ad n cap L h2 h4 c1 (by omega) (by omega)
        exact fresh (q := grownCap w n 0 e) (hrunB hrun) ⟨L, (Builtin.zeroCells z.cells (grownCap w n 0 e - n)).toList, h1, by simp⟩ (by simp [SV.den, hR.len, E.i])
    · split at hq'
      · rename_i hc hn0
        subst hn0
        rw [pick_okV hq']
        subst hX
        refine ⟨.slice none 0 0, ρ, w, hrunB ?_, Out.refl _ _, hR, rfl⟩
        rcases h3 with ⟨rfl, _⟩ | ⟨ad, cap, rfl, h4⟩
        · simp [Builtin.append_, run_underlying hu, sizeOf, typeInfo, hi, Builtin.lenOf, run_firstCells_none]
        · have hL0 : L = [] := by apply List.length_eq_zero_iff.1; simp [h2]
          have hf := run_firstCells_some (P := c.P) w i.size 0 ad 0 cap [] (by simp) (by simp)
          simp [Builtin.append_, run_underlying hu, sizeOf, typeInfo, hi, Builtin.lenOf, hf]
      · exact (pick_bad hq').elim
  -- onto nil, from letters
  have nilA : ∀ {n b0 : Nat} {len len' : E} {k : IntKind} {ups : List (E × E)} {ty : TypeId} {K : Int} {ad : Nat × Nat} {cap : Nat}, X = .slice none 0 0 → s[n]? = some (.arr b0 len' k ups ty) → ρ[n]? = some ad → Y = .slice (some ⟨ad.1, 0, none⟩) (len.i v).toNat cap → upperP len p = some K →
      (bif E.eqb len len' && decide (K ≤ 1000000) && decide (i.size = 1) && decide (i.bytes ≤ 8) && (decideP (mkCmp0 .lss len (.lit 0)) p == some false) then
                  mkIf (mkCmp0 .eql len (.lit 0)) p (fun _ => okV .nilslice s) (fun _ => okV (.slicec s.length 0 len) (s ++ [.arr b0 len k ups e])) else bad 133).pick v = some r → OpOk c v ρ w a.eval o r := by
    intro n b0 len len' k ups ty K ad cap hX hs hb hY hK hq
    cases hcond : (E.eqb len len' && decide (K ≤ 1000000) && decide (i.size = 1) && decide (i.bytes ≤ 8) && (decideP (mkCmp0 .lss len (.lit 0)) p == some false))
    · rw [hcond, cond_false] at hq; exact (pick_bad hq).elim
    rw [hcond, cond_true] at hq
    simp only [Bool.and_eq_true, decide_eq_true_eq, beq_iff_eq] at hcond
    obtain ⟨⟨⟨⟨c1, c2⟩, c3⟩, c4⟩, c5⟩ := hcond
    have := E.eq_of_eqb c1
    subst this
    have hle := upperP_ok hp hK
    have hl0 := decideP_ok hp c5
    rw [mkCmp0_b] at hl0
    have hl1 : ¬ len.i v < 0 := of_decide_eq_false hl0
    obtain ⟨b', ob, h2, h3, cs, rfl, h4, h5⟩ := hR.blk n _ hs
    rw [hb] at h2; simp at h2; subst h2
    subst hX hY
    obtain ⟨p', hp', ⟨hc, hq⟩ | ⟨hc, hq⟩⟩ := pick_mkIf hp hq
    · rw [mkCmp0_b] at hc
      have hz0 : len.i v = 0 := by simpa [cmpB, E.i] using hc
      rw [pick_okV hq]
      refine ⟨.slice none 0 0, ρ, w, hrunB ?_, Out.refl _ _, hR, rfl⟩
      have hf := run_firstCells_some (P := c.P) w i.size 0 ⟨ad.1, 0, none⟩ 0 cap [] (by simp) (by simp)
      simp [Builtin.append_, run_underlying hu, sizeOf, typeInfo, hi, Builtin.lenOf, hz0, hf]
    · rw [mkCmp0_b] at hc
      have hz0 : ¬ len.i v = 0 := by simpa [cmpB, E.i] using hc
      rw [pick_okV hq]
      have hn : (len.i v).toNat ≤ cs.size := by omega
      have hrun := run_append_nil (P := c.P) w t o.type e i z hu hi hz ⟨ad.1, 0, none⟩ (len.i v).toNat cap (cs.toList.take (len.i v).toNat) (by rw [c3]; simp; omega) (fun j V hj => by
        rw [add_mid, cell_of_row w ad.1 _ _ _ _ h3, Nat.zero_add, ← Array.getElem?_toList]
        rw [List.getElem?_take] at hj
        split at hj
        · exact hj
        · simp at hj) (by omega) (by omega) (by
          have : (len.i v).toNat * i.bytes ≤ 1000000 * 8 := Nat.mul_le_mul (by omega) c4
          omega)
      refine fresh (q := grownCap w (len.i v).toNat 0 e) (hrunB hrun) ⟨_, rfl, ?_, fun j hj => ?_⟩ (by simp [SV.den, hR.len])
      · simp; omega
      · have hj2 : j < (len.i v).toNat := by omega
        have hsz : (List.take (len.i v).toNat cs.toList).toArray.size = (len.i v).toNat := by simp; omega
        rw [Array.getElem?_append_left (by rw [hsz]; exact hj2), List.getElem?_toArray, List.getElem?_take, if_pos hj2, Array.getElem?_toList]
        exact h5 j hj
  split at h
  · -- nil
    simp only [SV.den, Option.some.injEq] at hx
    split at h
    · rename_i n len cp
      split at h
      · rename_i b0 len' k ups ty hs
        split at h
        · rename_i K hK
          simp only [SV.den, Option.map_eq_some_iff] at hy
          obtain ⟨b, hb, hY⟩ := hy
          exact nilA hx.symm hs hb hY.symm hK h
        · exact (pick_bad h).elim
      · split at h
        · rename_i n' l hsc
          exact nilK hx.symm hsc (.inl h)
        · exact (pick_bad h).elim
    · rename_i n len
      split at h
      · rename_i b0 len' k ups ty hs
        split at h
        · rename_i K hK
          simp only [SV.den, Option.map_eq_some_iff] at hy
          obtain ⟨b, hb, hY⟩ := hy
          exact nilA hx.symm hs hb hY.symm hK h
        · exact (pick_bad h).elim
      · split at h
        · rename_i n' l hsc
          exact nilK hx.symm hsc (.inl h)
        · exact (pick_bad h).elim
    · split at h
      · rename_i n' l hsc
        exact nilK hx.symm hsc (.inr h)
      · exact (pick_bad h).elim
  · -- grown
    rename_i n off l cap
    split at h
    case h_2 => exact (pick_bad h).elim
    rename_i q1 l1 n2 l2 hs1 hs2
    split at h
    case isFalse => exact (pick_bad h).elim
    rename_i hc
    obtain ⟨c1, c2, c3, c4⟩ := hc
    obtain ⟨L1, e1, e2, e3⟩ := sliceCells_ok hR hx hs1
    obtain ⟨L2, f1, f2, f3⟩ := sliceCells_ok hR hy hs2
    simp only [SV.den, Option.map_eq_some_iff] at hx
    obtain ⟨b, hb, hX⟩ := hx
    rcases e3 with ⟨e4, _⟩ | ⟨ad, cp, e4, e5⟩
    · rw [← hX] at e4; cases e4
    rw [← hX] at e4
    simp only [Value.slice.injEq, Option.some.injEq] at e4
    obtain ⟨rfl, rfl, rfl⟩ := e4
    rcases f3 with ⟨_, f4⟩ | ⟨ad2, cp2, f4, f5⟩
    · omega
    subst f4 hX
    rw [pick_okV h]
    have hfit : Builtin.nextslicecap (l + n2) cap * i.bytes ≤ 281474976710656 := by
      have h1 := nextslicecap_le (need := l + n2) (old := cap) c1
      have h2 : Builtin.nextslicecap (l + n2) cap * i.bytes ≤ 2 * (l + n2) * i.bytes := Nat.mul_le_mul_right _ h1
      rw [Nat.mul_assoc] at h2
      omega
    have hrun := run_append_grow (P := c.P) w t o.type e i z hu hi hz _ l cap L1 e2 e5 ad2 n2 cp2 L2 f2 f5 c1 (by omega) hfit
    exact fresh (q := grownCap w (l + n2) cap e) (hrunB hrun) ⟨L1 ++ L2, (Builtin.zeroCells z.cells (grownCap w (l + n2) cap e - (l + n2))).toList, denL_append e1 f1, by simp⟩ (by simp only [SV.den, E.i, Int.toNat_natCast]; simp [hR.len])
  · exact (pick_bad h).elim
theorem funcs_call {P : Program} (hN : ∀ fn ∈ P.funcs.toList, fn.name ≠ "runtime.NumGoroutine") {g : FuncId} (hb : ((P.funcs[g]?).map (·.body.isSome)).getD false = true) (args : Array Value) (w : World) :
    (callFunc g args).run P w = .ok (.enter g args) w := by
  cases hf : P.funcs[g]? with
  | none => simp [hf] at hb
  | some fn =>
    have hbody : fn.body.isNone = false := by
      simp [hf] at hb
      cases h : fn.body <;> simp_all
    have hn : (fn.name == "runtime.NumGoroutine") = false := by
      have : fn ∈ P.funcs.toList := Array.mem_toList_iff.2 (Array.mem_of_getElem? hf)
      simpa using hN fn this
    simp only [callFunc, program, Sem.run, Sem.run_bind, Result.andThen_ok, hf, hn, hbody, Bool.false_eq_true, if_false, Sem.run_pure]
theorem builtin_run {b : Builtin} {args : Array Operand} {argTypes : Array TypeId} (ho : o.op = .call ⟨.builtin b, args, argTypes⟩) {V : Value} (h : ∀ q, (builtin b argTypes o.type q (args.map a.eval)).run c.P w = .ok (.value V) w) :
    (execOp a.eval o).run c.P w = .ok (.value V) w := by
  unfold execOp
  simp only [ho, resolve, Sem.run_bind, Sem.run_pure, Result.andThen_ok, invoke, h]
theorem call_ok (hN : ∀ fn ∈ c.P.funcs.toList, fn.name ≠ "runtime.NumGoroutine") (hf : FrOk ρ v fr a.tmps) (hR : Rep c ρ v s w) (hp : PathOk v p) {k : Call} (ho : o.op = .call k) (h : (callSV c fr s p k).pick v = some r) : OpOk c v ρ w a.eval o r := by
  obtain ⟨callee, args, argTypes⟩ := k
  unfold callSV at h
  simp only at h
  have he : execOp a.eval o = (do let d ← resolve a.eval ⟨callee, args, argTypes⟩ o.type; invoke d.target d.args : Sem Next) := by unfold execOp; simp only [ho]
  split at h
  · -- a function
    rename_i f
    split at h
    case h_2 => exact (pick_bad h).elim
    rename_i g A B as hfn has
    split at h
    case isFalse => exact (pick_bad h).elim
    rename_i hb
    simp only [T.pick, Option.some.injEq] at h
    subst h
    have h1 := opd_ok hf hR hfn
    have h2 := opdL_ok hf hR has
    simp only [SV.den, Option.bind_eq_some_iff, Option.map_eq_some_iff] at h1
    obtain ⟨LA, hA, LB, hB, hfv⟩ := h1
    refine ⟨LA ++ args.toList.map a.eval ++ LB, ?_, denL_append (denL_append hA h2) hB⟩
    rw [he]
    simp only [resolve, Deferred.ofValue, ← hfv, Sem.run_bind, Sem.run_pure, Result.andThen_ok, invoke]
    rw [funcs_call hN hb]
    congr 2
    apply Array.ext'
    simp
  · -- len
    split at h
    case h_2 => exact (pick_bad h).elim
    rename_i t x ht hx
    have h2 := opdL_ok hf hR hx
    simp only [SV.denL, Option.bind_eq_some_iff, Option.map_eq_some_iff, Option.some.injEq] at h2
    obtain ⟨A, hA, _, rfl, hargs⟩ := h2
    have hargs' : (args.map a.eval) = #[A] := by apply Array.ext'; simpa using hargs.symm
    have hlen : ∀ {n : Int}, (Builtin.len_ argTypes o.type #[A]).run c.P w = .ok (.int .i64 n) w → OpOk c v ρ w a.eval o (.val (.int .i64 (.lit n)) s) := by
      intro n hl
      refine val_ok hR (builtin_run ho (V := .int .i64 n) ?_) (by simp [SV.den, E.i])
      intro q
      rw [hargs']
      simp only [builtin, Sem.run_bind, hl, Result.andThen_ok, Sem.run_pure]
    split at h
    · rename_i el n off l cap hu
      simp only [SV.den, Option.map_eq_some_iff] at hA
      obtain ⟨b, _, rfl⟩ := hA
      rw [pick_okV h]
      exact hlen (by unfold Builtin.len_; simp [ht, run_underlying hu, goInt])
    · rename_i el n off l hu
      simp only [SV.den, Option.map_eq_some_iff] at hA
      obtain ⟨b, _, rfl⟩ := hA
      split at h
      case isFalse => exact (pick_bad h).elim
      rename_i hl
      have hl0 := decideP_ok hp hl
      rw [mkCmp0_b] at hl0
      have hl1 : ¬ l.i v < 0 := of_decide_eq_false hl0
      rw [pick_okV h]
      refine val_ok hR (builtin_run ho (V := .int .i64 (l.i v)) ?_) (by simp [SV.den])
      intro q
      rw [hargs']
      have : (Builtin.len_ argTypes o.type #[.slice (some ⟨b.1, off, none⟩) (l.i v).toNat b.2]).run c.P w = .ok (.int .i64 (l.i v)) w := by
        simp [Builtin.len_, ht, run_underlying hu, goInt]; omega
      simp only [builtin, Sem.run_bind, this, Result.andThen_ok, Sem.run_pure]
    · rename_i el n off l cap hu
      simp only [SV.den, Option.map_eq_some_iff] at hA
      obtain ⟨b, _, rfl⟩ := hA
      split at h
      case isFalse => exact (pick_bad h).elim
      rename_i hl
      have hl0 := decideP_ok hp hl
      rw [mkCmp0_b] at hl0
      have hl1 : ¬ l.i v < 0 := of_decide_eq_false hl0
      rw [pick_okV h]
      refine val_ok hR (builtin_run ho (V := .int .i64 (l.i v)) ?_) (by simp [SV.den])
      intro q
      rw [hargs']
      have : (Builtin.len_ argTypes o.type #[.slice (some ⟨b.1, off, none⟩) (l.i v).toNat (cap.i v).toNat]).run c.P w = .ok (.int .i64 (l.i v)) w := by
        simp [Builtin.len_, ht, run_underlying hu, goInt]; omega
      simp only [builtin, Sem.run_bind, this, Result.andThen_ok, Sem.run_pure]
    · rename_i el hu
      simp only [SV.den, Option.some.injEq] at hA
      subst hA
      rw [pick_okV h]
      exact hlen (by unfold Builtin.len_; simp [ht, run_underlying hu, goInt])
    · rename_i b hu
      simp only [SV.den, Option.some.injEq] at hA
      subst hA
      rw [pick_okV h]
      have hsz : (⟨b.toArray⟩ : ByteArray).size = b.length := List.size_toArray
      exact hlen (by unfold Builtin.len_; simp [ht, run_underlying hu, goInt, hsz])
    · rename_i n el hu
      rw [pick_okV h]
      exact hlen (by unfold Builtin.len_; cases A <;> simp [ht, run_underlying hu, goInt])
    · exact (pick_bad h).elim
  · -- append
    split at h
    case h_2 => exact (pick_bad h).elim
    rename_i t t' x y hts hx
    split at h
    case isFalse => exact (pick_bad h).elim
    rename_i ht
    subst ht
    have h2 := opdL_ok hf hR hx
    simp only [SV.denL, Option.bind_eq_some_iff, Option.map_eq_some_iff, Option.some.injEq] at h2
    obtain ⟨X, hX, L2, ⟨Y, hY, _, rfl, rfl⟩, hargs⟩ := h2
    have hargs' : (args.map a.eval) = #[X, Y] := by apply Array.ext'; simpa using hargs.symm
    have hts' : argTypes = #[t, t] := by apply Array.ext'; simpa using hts
    subst hts'
    refine append_ok hR hp ho hargs' hX hY ?_ h
    intro V w' hb
    unfold execOp
    simp only [ho, resolve, Sem.run_bind, Sem.run_pure, Result.andThen_ok, invoke, builtin, hargs', hb]
  · -- min
    split at h
    case h_2 => exact (pick_bad h).elim
    rename_i k A l B hx
    cases hk : kindEq k l
    · simp only [hk, cond_false] at h; exact (pick_bad h).elim
    simp only [hk, cond_true] at h
    have : k = l := by simpa [kindEq] using hk
    subst this
    have h2 := opdL_ok hf hR hx
    simp only [SV.denL, SV.den, Option.bind_some, Option.map_some, Option.some.injEq] at h2
    have hargs' : (args.map a.eval) = #[.int k (A.i v), .int k (B.i v)] := by apply Array.ext'; simpa using h2.symm
    rw [pick_okV h]
    refine val_ok hR (builtin_run ho (V := .int k (if B.i v < A.i v then B.i v else A.i v)) ?_) ?_
    · intro q
      rw [hargs']
      simp [builtin, Builtin.min_, Builtin.min2]
    · simp only [SV.den, mkIteE_i, mkCmp0_b, cmpB]
      by_cases hlt : B.i v < A.i v <;> simp [hlt]
  · -- max
    split at h
    case h_2 => exact (pick_bad h).elim
    rename_i k A l B hx
    cases hk : kindEq k l
    · simp only [hk, cond_false] at h; exact (pick_bad h).elim
    simp only [hk, cond_true] at h
    have : k = l := by simpa [kindEq] using hk
    subst this
    have h2 := opdL_ok hf hR hx
    simp only [SV.denL, SV.den, Option.bind_some, Option.map_some, Option.some.injEq] at h2
    have hargs' : (args.map a.eval) = #[.int k (A.i v), .int k (B.i v)] := by apply Array.ext'; simpa using h2.symm
    rw [pick_okV h]
    refine val_ok hR (builtin_run ho (V := .int k (if A.i v < B.i v then B.i v else A.i v)) ?_) ?_
    · intro q
      rw [hargs']
      simp [builtin, Builtin.max_, Builtin.max2]
    · simp only [SV.den, mkIteE_i, mkCmp0_b, cmpB]
      by_cases hlt : A.i v < B.i v <;> simp [hlt]
  · exact (pick_bad h).elim
theorem assert_ok (hR : Rep c ρ v s w) {x : Operand} {xT t : TypeId} {ok : Bool} (ho : o.op = .typeAssert x xT t ok) {y : SV} (hy : y.den ρ v = some (a.eval x)) (h : (assertSV c s y t ok).pick v = some r) : OpOk c v ρ w a.eval o r := by
  unfold assertSV at h
  have he : execOp a.eval o = (do pure (.value (← Instr.typeAssert (a.eval x) xT t ok)) : Sem Next) := by unfold execOp; simp only [ho]
  have zrun : ∀ {z : Value}, (c.P.info? t).bind (·.zero) = some z → (zeroValue t).run c.P w = .ok z w := by
    intro z hz
    simp only [Option.bind_eq_some_iff] at hz
    obtain ⟨i, h1, h2⟩ := hz
    simp [zeroValue, typeInfo, h1, h2]
  split at h
  · exact (pick_bad h).elim
  · exact (pick_bad h).elim
  · rename_i d hni hu
    split at h
    · rename_i t' y'
      simp only [SV.den, Option.map_eq_some_iff] at hy
      obtain ⟨V, hV, hA⟩ := hy
      rw [← hA] at he
      split at h
      · rename_i ht
        subst ht
        rw [pick_okV h]
        cases ok
        · refine val_ok' hR he (V := V) ?_ (by simpa using hV)
          cases d <;> first | (exact (hni _ rfl).elim) | simp [Instr.typeAssert, run_underlying hu]
        · refine val_ok' hR he (V := .tuple #[V, .bool true]) ?_ (by simp [SV.den, SV.denL, hV, E.b])
          cases d <;> first | (exact (hni _ rfl).elim) | simp [Instr.typeAssert, run_underlying hu]
      · rename_i ht
        cases ok
        · simp at h; exact (pick_bad h).elim
        · simp only [if_true] at h
          split at h
          case h_2 => exact (pick_bad h).elim
          rename_i z hz
          split at h
          case h_2 => exact (pick_bad h).elim
          rename_i zs hzs
          rw [pick_okV h]
          refine val_ok' hR he (V := .tuple #[z, .bool false]) ?_ (by simp [SV.den, SV.denL, ofVal_ok hzs, E.b])
          cases d <;> first | (exact (hni _ rfl).elim) | simp [Instr.typeAssert, run_underlying hu, ht, zrun hz]
    · simp only [SV.den, Option.some.injEq] at hy
      rw [← hy] at he
      cases ok
      · simp at h; exact (pick_bad h).elim
      · simp only [if_true] at h
        split at h
        case h_2 => exact (pick_bad h).elim
        rename_i z hz
        split at h
        case h_2 => exact (pick_bad h).elim
        rename_i zs hzs
        rw [pick_okV h]
        refine val_ok' hR he (V := .tuple #[z, .bool false]) ?_ (by simp [SV.den, SV.denL, ofVal_ok hzs, E.b])
        cases d <;> first | (exact (hni _ rfl).elim) | simp [Instr.typeAssert, run_underlying hu, zrun hz]
    · exact (pick_bad h).elim
theorem opEv_ok (hN : ∀ fn ∈ c.P.funcs.toList, fn.name ≠ "runtime.NumGoroutine") (hf : FrOk ρ v fr a.tmps) (hR : Rep c ρ v s w) (hp : PathOk v p) (h : (opEv c fr s p o.op).pick v = some r) : OpOk c v ρ w a.eval o r := by
  generalize hop : o.op = op at h
  have hopd := fun {x : Operand} {y : SV} => opd_ok hf hR (x := x) (y := y)
  unfold opEv at h
  split at h
  · -- move
    rename_i x
    split at h
    · rename_i y hy
      rw [pick_okV h]
      exact val_ok hR (by unfold execOp; simp only [hop, Sem.run_pure]) (hopd hy)
    · exact (pick_bad h).elim
  · rename_i x
    split at h
    · rename_i y hy
      rw [pick_okV h]
      exact val_ok hR (by unfold execOp; simp only [hop, Sem.run_pure]) (hopd hy)
    · exact (pick_bad h).elim
  · -- pick
    rename_i k x y
    split at h
    case h_2 => exact (pick_bad h).elim
    rename_i e x' y' hk hx hy
    have h1 := hopd hk
    simp only [SV.den, Option.some.injEq] at h1
    have hrun : (execOp a.eval o).run c.P w = .ok (.value (if e.b v then a.eval x else a.eval y)) w := by
      unfold execOp; simp only [hop, ← h1]; simp [asBool]
    obtain ⟨p', hp', hq | hq⟩ := pick_mkIf hp h
    · rw [pick_okV hq.2]
      rw [hq.1] at hrun
      exact val_ok hR hrun (by simpa using hopd hx)
    · rw [pick_okV hq.2]
      rw [hq.1] at hrun
      exact val_ok hR hrun (by simpa using hopd hy)
  · -- alloc
    split at h
    · rename_i z hz
      rw [pick_okV h]; exact alloc_ok hR hop hz
    · exact (pick_bad h).elim
  · -- box
    split at h
    · rename_i y hy
      rw [pick_okV h]; exact box_ok hR hop (hopd hy)
    · exact (pick_bad h).elim
  · -- build
    split at h
    · rename_i z ps fs hz hps hu
      split at h
      · rename_i pl hpl
        split at h
        · rename_i l hl
          rw [pick_okV h]; exact build_struct hR hop hz (opdParts_ok hf hR hps) hu hpl hl
        · exact (pick_bad h).elim
      · exact (pick_bad h).elim
    · rename_i z ps n e hz hps hu
      split at h
      · rename_i m hm
        split at h
        · rename_i l hl
          rw [pick_okV h]; exact build_array hR hop hz (opdParts_ok hf hR hps) hu hm hl
        · exact (pick_bad h).elim
      · exact (pick_bad h).elim
    · exact (pick_bad h).elim
  · -- buildSlice
    split at h
    · rename_i ps hps
      exact buildSlice_ok hR hop (opdParts_ok hf hR hps) h
    · exact (pick_bad h).elim
  · -- makeSlice
    split at h
    · rename_i x' y' hx hy
      exact makeSlice_ok hR hop (hopd hx) (hopd hy) h
    · exact (pick_bad h).elim
  · -- defer
    rename_i k
    obtain ⟨callee, args, argTypes⟩ := k
    simp only at h
    split at h
    case h_2 => exact (pick_bad h).elim
    rename_i f
    split at h
    case h_2 => exact (pick_bad h).elim
    rename_i g A B as hfn has
    split at h
    case isFalse => exact (pick_bad h).elim
    rename_i hb
    simp only [T.pick, Option.some.injEq] at h
    subst h
    have h1 := hopd hfn
    have h2 := opdL_ok hf hR has
    simp only [SV.den, Option.bind_eq_some_iff, Option.map_eq_some_iff] at h1
    obtain ⟨LA, hA, LB, hB, hfv⟩ := h1
    refine ⟨LA ++ args.toList.map a.eval, LB, ?_, denL_append (denL_append hA h2) hB, hb⟩
    unfold execOp
    simp only [hop, resolve, Deferred.ofValue, ← hfv, Sem.run_bind, Sem.run_pure, Result.andThen_ok]
    congr 4
    apply Array.ext'
    simp
  · -- load
    rename_i t x
    split at h
    · rename_i y hy
      obtain ⟨z, V, rfl, h1, h2⟩ := load_core hR hp (hopd hy) h
      exact val_ok' hR (S := Instr.loadAt t (a.eval x)) (by unfold execOp; simp only [hop]) h1 h2
    · exact (pick_bad h).elim
  · -- store
    rename_i t x y
    split at h
    · rename_i x' y' hx hy
      obtain ⟨s', w', rfl, h1, h2, h3⟩ := store_core hR hp (hopd hx) (hopd hy) h
      refine ⟨ρ, w', ?_, h2, h3⟩
      unfold execOp
      simp only [hop, Sem.run_bind, h1, Result.andThen_ok, Sem.run_pure]
    · exact (pick_bad h).elim
  · -- nilCheck
    rename_i x
    split at h
    · rename_i n off hy
      have h1 := hopd hy
      rw [pick_okV h]
      refine val_ok hR ?_ h1
      simp only [SV.den, Option.map_eq_some_iff] at h1
      obtain ⟨b, _, h2⟩ := h1
      unfold execOp; simp only [hop, ← h2, Sem.run_pure]
    · rename_i n off st cnt e hy
      have h1 := hopd hy
      rw [pick_okV h]
      refine val_ok hR ?_ h1
      simp only [SV.den, Option.map_eq_some_iff] at h1
      obtain ⟨b, _, h2⟩ := h1
      unfold execOp; simp only [hop, ← h2, Sem.run_pure]
    · rename_i n off e hy
      have h1 := hopd hy
      rw [pick_okV h]
      refine val_ok hR ?_ h1
      simp only [SV.den, Option.map_eq_some_iff] at h1
      obtain ⟨b, _, h2⟩ := h1
      unfold execOp; simp only [hop, ← h2, Sem.run_pure]
    · rename_i f A B hy
      have h1 := hopd hy
      rw [pick_okV h]
      refine val_ok hR ?_ h1
      simp only [SV.den, Option.bind_eq_some_iff, Option.map_eq_some_iff] at h1
      obtain ⟨_, _, _, _, h2⟩ := h1
      unfold execOp; simp only [hop, ← h2, Sem.run_pure]
    · rename_i t y hy
      have h1 := hopd hy
      rw [pick_okV h]
      refine val_ok hR ?_ h1
      simp only [SV.den, Option.map_eq_some_iff] at h1
      obtain ⟨_, _, h2⟩ := h1
      unfold execOp; simp only [hop, ← h2, Sem.run_pure]
    · exact (pick_bad h).elim
  · -- binOp
    split at h
    · rename_i x' y' hx hy
      exact bin_ok hR hp hop (hopd hx) (hopd hy) h
    · exact (pick_bad h).elim
  · split at h
    · rename_i y hy
      exact un_ok hR hop (hopd hy) h
    · exact (pick_bad h).elim
  · -- convert
    rename_i src dst x
    split at h
    · rename_i d k k' e hs hd hy
      have h1 := hopd hy
      simp only [SV.den, Option.some.injEq] at h1
      rw [pick_okV h]
      refine val_ok' hR (S := convert src dst (a.eval x)) (V := .int k (k.wrap (e.i v))) (by unfold execOp; simp only [hop]) ?_ (by simp only [SV.den, mkCv_i])
      rw [← h1]
      simp only [convert, Sem.run_bind, run_underlying hs, run_underlying hd, Result.andThen_ok]
      cases d <;> simp [Conv.intToInt]
    · exact (pick_bad h).elim
  · -- makeInterface
    rename_i t x
    split at h
    · exact (pick_bad h).elim
    · rename_i d y hni hu hy
      rw [pick_okV h]
      refine val_ok' hR (S := Instr.makeInterface t (a.eval x)) (V := .iface t (a.eval x)) (by unfold execOp; simp only [hop]) ?_ (by simp [SV.den, hopd hy])
      simp only [Instr.makeInterface, Sem.run_bind, run_underlying hu, Result.andThen_ok]
      cases d <;> first | (exact (hni _ hu).elim) | (exact (hni _ rfl).elim) | simp
    · exact (pick_bad h).elim
  · -- makeFunc
    rename_i fn A B
    split at h
    · rename_i A' B' hA hB
      rw [pick_okV h]
      refine val_ok' hR (S := Instr.makeFunc fn (A.map a.eval) (B.map a.eval)) (V := .func fn (A.map a.eval) (B.map a.eval)) (by unfold execOp; simp only [hop]) (by simp [Instr.makeFunc]) ?_
      simp only [SV.den, opdL_ok hf hR hA, opdL_ok hf hR hB, Option.bind_some, Option.map_some]
      congr 2 <;> (apply Array.ext'; simp)
    · exact (pick_bad h).elim
  · -- fieldAddr
    split at h
    · rename_i fs y hu hy
      split at h
      · rename_i fd hfd
        split at h
        · rename_i m hm
          split at h
          · exact (pick_bad h).elim
          · rename_i hm0
            split at h
            · rename_i z hz
              rw [pick_okV h]
              exact fieldAddr_ok hR hop (hopd hy) hu hfd hm hm0 hz
            · exact (pick_bad h).elim
        · exact (pick_bad h).elim
      · exact (pick_bad h).elim
    · exact (pick_bad h).elim
  · -- field
    split at h
    · rename_i fs l hu hy
      split at h
      · rename_i fd hfd
        split at h
        · rename_i z hz
          rw [pick_okV h]
          exact field_ok hR hop (hopd hy) hu hfd hz
        · exact (pick_bad h).elim
      · exact (pick_bad h).elim
    · exact (pick_bad h).elim
  · split at h
    · rename_i x' y' hx hy
      exact indexAddr_ok hR hp hop (hopd hx) (hopd hy) h
    · exact (pick_bad h).elim
  · split at h
    · rename_i x' y' hx hy
      exact index_ok hR hp hop (hopd hx) (hopd hy) h
    · exact (pick_bad h).elim
  · -- extract
    rename_i x i
    split at h
    · rename_i l hl
      split at h
      · rename_i y hy
        have h1 := hopd hl
        simp only [SV.den, Option.map_eq_some_iff] at h1
        obtain ⟨L, hL, hA⟩ := h1
        obtain ⟨V, hV, hd⟩ := denL_get hL hy
        rw [pick_okV h]
        refine val_ok' hR (S := Instr.extract (a.eval x) i) (V := V) (by unfold execOp; simp only [hop]) ?_ hd
        rw [← hA]
        simp [Instr.extract, hV]
      · exact (pick_bad h).elim
    · exact (pick_bad h).elim
  · exact call_ok hN hf hR hp hop h
  · split at h
    · rename_i y hy
      exact assert_ok hR hop (hopd hy) h
    · exact (pick_bad h).elim
  · -- panic
    rename_i x
    split at h
    · rename_i t y hy
      simp only [T.pick, Option.some.injEq] at h
      subst h
      have h1 := hopd hy
      refine ⟨a.eval x, ?_, h1⟩
      simp only [SV.den, Option.map_eq_some_iff] at h1
      obtain ⟨V, _, h2⟩ := h1
      unfold execOp
      simp only [hop, ← h2, Sem.run_bind, Instr.panic, goPanic, Sem.run, Result.andThen]
    · exact (pick_bad h).elim
  · exact (pick_bad h).elim
end
end Go.Proofs.YtancmkdmlghlpaaGreatDoor.Ev
