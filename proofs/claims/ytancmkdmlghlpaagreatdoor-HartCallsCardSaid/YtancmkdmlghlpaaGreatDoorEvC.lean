/- Loads, stores, new values: the laws behind 'opEv'. No statement is proved here. -/
import Derived.Test.YtancmkdmlghlpaaGreatDoorEvB
namespace Go.Proofs.YtancmkdmlghlpaaGreatDoor.Ev
open Go
section
variable {c : Cx} {v : Env} {ρ : Rho} {s : St} {w : World} {fr : List SV} {a : Act} {o : Oper} {p : Path} {r : Rs}
theorem rdE_ok {b : Nat} {e : E} : ∀ {ups : List (E × E)}, 0 ≤ e.i v → (rdE b e ups).i v = arrI v b ups (e.i v).toNat
  | [], h => by simp [rdE, arrI, E.i]
  | (f, x) :: r, h => by
    simp only [rdE, arrI, mkIteE_i, mkCmp0_b, cmpB, rdE_ok h]
    by_cases hf : f.i v = e.i v
    · have h1 : f.i v = (((e.i v).toNat : Nat) : Int) := by omega
      have h2 : (f.i v == e.i v) = true := by simpa using hf
      rw [h2, if_pos h1]; rfl
    · have h1 : ¬ f.i v = (((e.i v).toNat : Nat) : Int) := by omega
      have h2 : (f.i v == e.i v) = false := by simpa using hf
      rw [h2, if_neg h1]; rfl
theorem inr_ok {a b : E} (hp : PathOk v p) (h : decideP (mkInr a b) p = some true) : 0 ≤ a.i v ∧ a.i v < b.i v := by
  have := decideP_ok hp h
  rw [mkInr_b] at this
  simpa using this
theorem load_core {t : TypeId} {x : SV} {A : Value} (hR : Rep c ρ v s w) (hp : PathOk v p) (hA : x.den ρ v = some A) (h : (loadSV c t s p x).pick v = some r) :
    ∃ y V, r = .val y s ∧ (Instr.loadAt t A).run c.P w = .ok V w ∧ y.den ρ v = some V := by
  unfold loadSV at h
  split at h
  · -- ptr
    rename_i n o
    simp only [SV.den, Option.map_eq_some_iff] at hA
    obtain ⟨b, hb, rfl⟩ := hA
    split at h
    · rename_i cs ty hs
      obtain ⟨L, X, hL, hw⟩ := row_of hR hb hs
      split at h
      · exact (pick_bad h).elim
      · rename_i d hu
        by_cases hd : d.isRow = true
        · rw [if_pos hd] at h
          split at h
          · rename_i m hm
            by_cases hle : o + m ≤ cs.length
            · rw [if_pos hle] at h
              refine ⟨_, _, pick_okV h, run_loadAt_mid w b.1 o t ((L.drop o).take m) d (range_at hw o m) hu hd ?_, ?_⟩
              · rw [show (c.P.info? t).map (·.size) = some m from hm]
                have := denL_length hL
                simp; omega
              · simp [SV.den, denL_take m (denL_drop o hL)]
            · rw [if_neg hle] at h; exact (pick_bad h).elim
          · exact (pick_bad h).elim
        · rw [if_neg hd] at h
          split at h
          · rename_i y hy
            obtain ⟨V, hV, hyV⟩ := denL_get hL hy
            exact ⟨y, V, pick_okV h, run_loadAt_one (by rw [cell_at hw (List.getElem?_eq_some_iff.1 hV).1]; exact hV) hu (by simpa using hd), hyV⟩
          · exact (pick_bad h).elim
    · exact (pick_bad h).elim
  · -- ptrx
    rename_i n o st cnt e
    simp only [SV.den, Option.map_eq_some_iff] at hA
    obtain ⟨b, hb, rfl⟩ := hA
    split at h
    · rename_i cs ty hs hin
      obtain ⟨L, X, hL, hw⟩ := row_of hR hb hs
      have h01 := inr_ok hp hin
      simp only [E.i] at h01
      split at h
      · exact (pick_bad h).elim
      · rename_i d hu
        by_cases hd : d.isRow = true
        · rw [if_pos hd] at h
          split at h
          · rename_i l hl
            simp only [Option.bind_eq_some_iff] at hl
            obtain ⟨m, hm, hl⟩ := hl
            obtain ⟨i1, i2, i3⟩ := selCells_ok hL h01.1 (by omega) hl
            refine ⟨_, _, pick_okV h, run_loadAt_mid w b.1 _ t ((L.drop (o + (e.i v).toNat * st)).take m) d (range_at hw _ m) hu hd ?_, ?_⟩
            · rw [show (c.P.info? t).map (·.size) = some m from hm]
              simp only [List.length_take, List.length_drop, Option.some.injEq]
              by_cases hm0 : m = 0
              · omega
              · simp only [hm0, if_false] at i3; omega
            · simp [SV.den, i1]
          · exact (pick_bad h).elim
        · rw [if_neg hd] at h
          split at h
          · rename_i y hl
            obtain ⟨i1, i2, i3⟩ := selCells_ok hL h01.1 (by omega) hl
            simp only [Nat.one_ne_zero, if_false, Nat.add_zero] at i3
            have hlt : o + (e.i v).toNat * st < L.length := by omega
            rw [List.drop_eq_getElem_cons hlt] at i1
            simp only [SV.denL, List.take_succ_cons, List.take_zero, Option.bind_eq_some_iff, Option.map_some, Option.some.injEq, List.cons.injEq, and_true] at i1
            obtain ⟨V, i4, i5⟩ := i1
            exact ⟨y, V, pick_okV h, run_loadAt_one (by rw [cell_at hw hlt]; simp [hlt, i5]) hu (by simpa using hd), i4⟩
          · exact (pick_bad h).elim
    · exact (pick_bad h).elim
  · -- ptra
    rename_i n o e
    simp only [SV.den, Option.map_eq_some_iff] at hA
    obtain ⟨b, hb, rfl⟩ := hA
    split at h
    · rename_i b0 len k ups ty hs
      obtain ⟨b', ob, h1, h2, cs, rfl, h3, h4⟩ := hR.blk n _ hs
      rw [hb] at h1; simp at h1; subst h1
      split at h
      · rename_i k' hu
        split at h
        · rename_i hc
          obtain ⟨rfl, rfl, hin⟩ := hc
          have h01 := inr_ok hp hin
          refine ⟨_, _, pick_okV h, run_loadAt_one (V := .int k (arrI v b0 ups (e.i v).toNat)) ?_ hu rfl, ?_⟩
          · rw [cell_of_row w b.1 _ _ _ _ h2, Nat.zero_add]
            exact h4 _ (by omega)
          · simp [SV.den, rdE_ok h01.1]
        · exact (pick_bad h).elim
      · exact (pick_bad h).elim
    · exact (pick_bad h).elim
  · exact (pick_bad h).elim

/-! ### stores -/
theorem writeAt_length {α : Type} {cs xs : List α} {o : Nat} (h : o + xs.length ≤ cs.length) : (writeAt cs xs o).length = cs.length := by
  simp [writeAt]; omega
theorem writeAt_den {cs xs : List SV} {L M : List Value} (h : SV.denL ρ v cs = some L) (hx : SV.denL ρ v xs = some M) (o : Nat) : SV.denL ρ v (writeAt cs xs o) = some (writeAt L M o) := by
  unfold writeAt
  rw [← denL_length hx]
  exact denL_append (denL_append (denL_take o h) hx) (denL_drop _ h)
theorem mergeSV_ok {e : E} {x y z : SV} (h : mergeSV e x y = some z) : z.den ρ v = bif e.b v then x.den ρ v else y.den ρ v := by
  unfold mergeSV at h
  split at h
  · rename_i k a l b
    cases hk : kindEq k l
    · simp [hk] at h
    · simp only [hk, cond_true, Option.some.injEq] at h
      have : k = l := by simpa [kindEq] using hk
      subst this h
      simp only [SV.den, mkIteE_i]
      cases e.b v <;> rfl
  · simp only [Option.some.injEq] at h
    subst h
    simp only [SV.den, mkIteB_b]
    cases e.b v <;> rfl
  · cases hk : SV.eqb x y
    · simp [hk] at h
    · simp only [hk, cond_true, Option.some.injEq] at h
      subst h
      rw [SV.eq_of_eqb hk]
      cases e.b v <;> rfl
theorem mergeL_ok {e : E} : ∀ {l m q : List SV}, mergeL e l m = some q → SV.denL ρ v q = bif e.b v then SV.denL ρ v l else SV.denL ρ v m
  | [], m, q, h => by
    cases m <;> simp [mergeL] at h
    subst h; cases e.b v <;> rfl
  | x :: l, m, q, h => by
    cases m with
    | nil => simp [mergeL] at h
    | cons y m =>
      simp only [mergeL, Option.bind_eq_some_iff, Option.map_eq_some_iff] at h
      obtain ⟨z, h1, q, h2, rfl⟩ := h
      simp only [SV.denL, mergeSV_ok h1, mergeL_ok h2]
      cases e.b v <;> rfl
theorem mergeL_length {e : E} : ∀ {l m q : List SV}, mergeL e l m = some q → q.length = m.length
  | [], m, q, h => by
    cases m <;> simp [mergeL] at h
    subst h; rfl
  | x :: l, m, q, h => by
    cases m with
    | nil => simp [mergeL] at h
    | cons y m =>
      simp only [mergeL, Option.bind_eq_some_iff, Option.map_eq_some_iff] at h
      obtain ⟨z, h1, q, h2, rfl⟩ := h
      simp [mergeL_length h2]
theorem writeX_ok {e : E} {st : Nat} {xs : List SV} {M : List Value} (hM : SV.denL ρ v xs = some M) (h0 : 0 ≤ e.i v) : ∀ {n o j : Nat} {cs cs' : List SV} {L : List Value}, SV.denL ρ v cs = some L → writeX e st xs o j n cs = some cs' →
    SV.denL ρ v cs' = some (if j ≤ (e.i v).toNat ∧ (e.i v).toNat < j + n then writeAt L M (o + ((e.i v).toNat - j) * st) else L)
  | 0, o, j, cs, cs', L, hL, h => by
    simp only [writeX, Option.some.injEq] at h
    subst h
    rw [if_neg (by omega)]; exact hL
  | n + 1, o, j, cs, cs', L, hL, h => by
    simp only [writeX, Option.bind_eq_some_iff] at h
    obtain ⟨q, hq, h⟩ := h
    have hd := mergeL_ok (ρ := ρ) (v := v) hq
    rw [mkCmp0_b, writeAt_den hL hM, hL] at hd
    simp only [cmpB, E.i] at hd
    by_cases he : e.i v = (j : Int)
    · have h1 : (e.i v == (j : Int)) = true := by simpa using he
      rw [h1, cond_true] at hd
      have := writeX_ok hM h0 hd h
      rw [this, if_neg (by omega), if_pos (by omega)]
      have : (e.i v).toNat - j = 0 := by omega
      rw [this]; simp
    · have h1 : (e.i v == (j : Int)) = false := by simpa using he
      rw [h1, cond_false] at hd
      have := writeX_ok hM h0 hd h
      rw [this]
      by_cases hc : j ≤ (e.i v).toNat ∧ (e.i v).toNat < j + (n + 1)
      · rw [if_pos hc, if_pos (by omega)]
        congr 2
        rw [show (e.i v).toNat - j = ((e.i v).toNat - (j + 1)) + 1 by omega, Nat.add_mul]
        omega
      · rw [if_neg hc, if_neg (by omega)]
theorem writeAt_append {α : Type} {L X M : List α} {o : Nat} (h : o + M.length ≤ L.length) : writeAt (L ++ X) M o = writeAt L M o ++ X := by
  unfold writeAt
  rw [List.take_append_of_le_length (by omega), List.drop_append_of_le_length (by omega)]
  simp
theorem run_storeAt_row {P : Program} {t : TypeId} {b o m : Nat} {B : Value} {L X : List Value} {ty : TypeId} (hw : w.heap[b]? = some (.cells (L ++ X).toArray ty (0, 0))) (hm : sizeB P t = some m) (hn : B.cells.toList.length = m)
    (hle : o + m ≤ L.length) (h1 : ∀ V ∈ B.cells.toList, V.oneCell' = true) :
    (Instr.storeAt t (.pointer (some ⟨b, o, none⟩)) B).run P w = .ok () (w.setRow b (writeAt L B.cells.toList o ++ X).toArray) := by
  have h2 := run_storeCells_at P b o ty B.cells.toList 0 (L ++ X).toArray w hw (by simp [hn]; omega) h1
  have hsz : B.cells.size = m := by simpa using hn
  simp only [Instr.storeAt, Instr.sureAddr, storeVar, Sem.run_bind, Sem.run_pure, Result.andThen_ok, sizeB_ok hm]
  rw [if_neg (by simp [hsz]), ← writeAt_append (by omega)]
  simpa [writeAt] using h2
theorem store_core {t : TypeId} {x y : SV} {A B : Value} (hR : Rep c ρ v s w) (hp : PathOk v p) (hA : x.den ρ v = some A) (hB : y.den ρ v = some B) (h : (storeSV c t s p x y).pick v = some r) :
    ∃ s' w', r = .skip s' ∧ (Instr.storeAt t A B).run c.P w = .ok () w' ∧ Out ρ w ρ w' ∧ Rep c ρ v s' w' := by
  unfold storeSV at h
  have hcB := den_cells hB
  cases hone : y.cells.all SV.one
  · simp only [hone, cond_false] at h; exact (pick_bad h).elim
  simp only [hone, cond_true] at h
  have h1 := denL_one hcB hone
  have hlB := denL_length hcB
  split at h
  case h_2 => exact (pick_bad h).elim
  rename_i m hm
  split at h
  case isFalse => exact (pick_bad h).elim
  rename_i hmn
  split at h
  · -- ptr
    rename_i n o
    simp only [SV.den, Option.map_eq_some_iff] at hA
    obtain ⟨b, hb, rfl⟩ := hA
    split at h
    · rename_i cs ty hs
      obtain ⟨L, X, hL, hw⟩ := row_of hR hb hs
      split at h
      case isFalse => exact (pick_bad h).elim
      rename_i hle
      simp only [T.pick, Option.some.injEq] at h
      have hlL := denL_length hL
      have hrun := run_storeAt_row (P := c.P) (t := t) (B := B) (o := o) hw hm (by omega) (by omega) h1
      obtain ⟨e1, e2⟩ := hR.set (b := .row (writeAt cs y.cells o) ty) hb (setRow_heap w b.1 _ (writeAt L B.cells.toList o ++ X).toArray ty _ hw) ⟨_, X, writeAt_den hL hcB o, rfl⟩
        (fun k hk => setRow_other w b.1 k _ hk) rfl rfl rfl (by simp) (fun o0 h0 => by
          rw [hw] at h0; simp only [Option.some.injEq] at h0; subst h0
          exact ⟨_, rfl, by simp only [List.size_toArray, List.length_append]; rw [writeAt_length (by omega)]⟩)
      exact ⟨_, _, h.symm, hrun, e2, e1⟩
    · exact (pick_bad h).elim
  · -- ptrx
    rename_i n o st cnt e
    simp only [SV.den, Option.map_eq_some_iff] at hA
    obtain ⟨b, hb, rfl⟩ := hA
    split at h
    · rename_i cs ty hs hin
      obtain ⟨L, X, hL, hw⟩ := row_of hR hb hs
      have h01 := inr_ok hp hin
      simp only [E.i] at h01
      split at h
      case isFalse => exact (pick_bad h).elim
      rename_i hle
      split at h
      case h_2 => exact (pick_bad h).elim
      rename_i cs' hcs'
      simp only [T.pick, Option.some.injEq] at h
      have hlL := denL_length hL
      have hbound : o + (e.i v).toNat * st + m ≤ L.length := by
        have h2 : (e.i v).toNat + 1 ≤ cnt := by omega
        have h3 : ((e.i v).toNat + 1) * st ≤ cnt * st := Nat.mul_le_mul_right _ h2
        rw [Nat.add_mul] at h3
        omega
      have hden := writeX_ok hcB h01.1 hL hcs'
      rw [if_pos (by omega)] at hden
      have hrun := run_storeAt_row (P := c.P) (t := t) (B := B) (o := o + (e.i v).toNat * st) hw hm (by omega) (by omega) h1
      obtain ⟨e1, e2⟩ := hR.set (b := .row cs' ty) hb (setRow_heap w b.1 _ (writeAt L B.cells.toList (o + (e.i v).toNat * st) ++ X).toArray ty _ hw) ⟨_, X, by simpa using hden, rfl⟩
        (fun k hk => setRow_other w b.1 k _ hk) rfl rfl rfl (by simp) (fun o0 h0 => by
          rw [hw] at h0; simp only [Option.some.injEq] at h0; subst h0
          exact ⟨_, rfl, by simp only [List.size_toArray, List.length_append]; rw [writeAt_length (by omega)]⟩)
      exact ⟨_, _, h.symm, hrun, e2, e1⟩
    · exact (pick_bad h).elim
  · -- ptra
    rename_i n o e
    simp only [SV.den, Option.map_eq_some_iff] at hA
    obtain ⟨b, hb, rfl⟩ := hA
    split at h
    · rename_i b0 len k ups ty k' f hs hxs
      obtain ⟨b', ob, h2, h3, cs, rfl, h4, h5⟩ := hR.blk n _ hs
      rw [hb] at h2; simp at h2; subst h2
      split at h
      case isFalse => exact (pick_bad h).elim
      rename_i hc
      obtain ⟨rfl, rfl, rfl, hin⟩ := hc
      simp only [T.pick, Option.some.injEq] at h
      have h01 := inr_ok hp hin
      have hw : w.heap[b.1]? = some (.cells (cs.toList ++ []).toArray ty (0, 0)) := by simpa using h3
      have hV : B.cells.toList = [.int k (f.i v)] := by
        rw [hxs] at hcB
        simp [SV.denL, SV.den] at hcB
        simp [← hcB]
      have hj : (e.i v).toNat < cs.size := by omega
      have hrun := run_storeAt_row (P := c.P) (t := t) (B := B) (o := 0 + (e.i v).toNat) hw hm (by rw [hV]; rfl) (by simp; omega) h1
      have hwl := writeAt_length (cs := cs.toList) (xs := B.cells.toList) (o := 0 + (e.i v).toNat) (by rw [hV]; simp; omega)
      obtain ⟨e1, e2⟩ := hR.set (b := .arr b0 len k ((e, f) :: ups) ty) hb (setRow_heap w b.1 _ (writeAt cs.toList B.cells.toList (0 + (e.i v).toNat) ++ []).toArray ty _ hw)
        ⟨_, rfl, by
          simp only [List.append_nil, List.size_toArray, hwl, Array.length_toList]; exact h4, fun j hjl => by
          have hjs : j < cs.size := by omega
          rw [List.append_nil, List.getElem?_toArray]
          simp only [writeAt, hV, Nat.zero_add, arrI]
          by_cases hje : e.i v = (j : Int)
          · have hjn : (e.i v).toNat = j := by omega
            rw [if_pos hje, hjn, List.append_assoc, List.getElem?_append_right (by simp only [List.length_take]; omega)]
            have h9 : j - (List.take j cs.toList).length = 0 := by simp only [List.length_take, Array.length_toList]; omega
            rw [h9]; rfl
          · rw [if_neg hje, ← h5 j hjl, ← Array.getElem?_toList]
            by_cases hlt : j < (e.i v).toNat
            · rw [List.append_assoc, List.getElem?_append_left (by simp; omega), List.getElem?_take, if_pos hlt]
            · rw [List.getElem?_append_right (by simp; omega), List.getElem?_drop]
              congr 1
              simp; omega⟩
        (fun k hk => setRow_other w b.1 k _ hk) rfl rfl rfl (by simp) (fun o0 h0 => by
          rw [hw] at h0; simp only [Option.some.injEq] at h0; subst h0
          exact ⟨_, rfl, by simp only [List.size_toArray, List.length_append]; rw [hwl]⟩)
      exact ⟨_, _, h.symm, hrun, e2, e1⟩
    · exact (pick_bad h).elim
  · exact (pick_bad h).elim
end
end Go.Proofs.YtancmkdmlghlpaaGreatDoor.Ev
