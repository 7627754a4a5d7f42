/- What one operation comes to: the laws behind 'opEv'. No statement is proved here. -/
import Derived.Test.YtancmkdmlghlpaaGreatDoorEvA
namespace Go.Proofs.YtancmkdmlghlpaaGreatDoor.Ev
open Go

def OpOk (c : Cx) (v : Env) (ρ : Rho) (w : World) (ρO : Operand → Value) (o : Oper) : Rs → Prop
  | .val x s' => ∃ V ρ' w', (execOp ρO o).run c.P w = .ok (.value V) w' ∧ Out ρ w ρ' w' ∧ Rep c ρ' v s' w' ∧ x.den ρ' v = some V
  | .skip s' => ∃ ρ' w', (execOp ρO o).run c.P w = .ok .skip w' ∧ Out ρ w ρ' w' ∧ Rep c ρ' v s' w'
  | .call f args => ∃ L, (execOp ρO o).run c.P w = .ok (.enter f L.toArray) w ∧ SV.denL ρ v args = some L
  | .pan x => ∃ V, (execOp ρO o).run c.P w = .halt (.panic V) w ∧ x.den ρ v = some V
  | .dfr g args => ∃ (L1 L2 : List Value), (execOp ρO o).run c.P w = .ok (.defer ⟨.fn (.func g) L2.toArray, L1.toArray⟩) w ∧ SV.denL ρ v args = some (L1 ++ L2) ∧ ((c.P.funcs[g]?).map (·.body.isSome)).getD false = true
structure FrOk (ρ : Rho) (v : Env) (fr : List SV) (tmps : Array Value) : Prop where
  len : fr.length = tmps.size
  get : ∀ (i : Nat) (x : SV), fr[i]? = some x → x = .any ∨ ∃ V, tmps[i]? = some V ∧ x.den ρ v = some V

section
variable {c : Cx} {v : Env} {ρ : Rho} {s : St} {w : World} {fr : List SV} {a : Act} {o : Oper} {p : Path} {r : Rs}
theorem pick_bad {n : Nat} (h : (bad n).pick v = some r) : False := by simp [bad, T.pick] at h
theorem pick_okV {x : SV} {s : St} (h : (okV x s).pick v = some r) : r = .val x s := by simp [okV, T.pick] at h; exact h.symm
theorem val_ok {x : SV} {V : Value} (hR : Rep c ρ v s w) (hrun : (execOp a.eval o).run c.P w = .ok (.value V) w) (hx : x.den ρ v = some V) : OpOk c v ρ w a.eval o (.val x s) :=
  ⟨V, ρ, w, hrun, Out.refl _ _, hR, hx⟩
theorem opd_ok (hf : FrOk ρ v fr a.tmps) (hR : Rep c ρ v s w) {x : Operand} {y : SV} (h : opd c fr x = some y) : y.den ρ v = some (a.eval x) := by
  cases x with
  | tmp t =>
    simp only [opd, Option.bind_eq_some_iff] at h
    obtain ⟨z, hz, h⟩ := h
    have : z = y ∧ z ≠ .any := by
      split at h
      · simp at h
      · rename_i hne; simp at h; exact ⟨h, hne⟩
    obtain ⟨rfl, hne⟩ := this
    rcases hf.get t z hz with h1 | ⟨V, h1, h2⟩
    · exact absurd h1 hne
    · simp only [Act.eval, Array.getD_eq_getD_getElem?, h1, Option.getD_some, h2]
  | const V => exact ofVal_ok h
  | global g =>
    simp only [opd, Option.map_eq_some_iff] at h
    obtain ⟨i, hi, rfl⟩ := h
    have hg : c.gl[i]? = some g := by
      have h2 : c.gl.findIdx? (· == g) = some i := hi
      obtain ⟨h3, h4, _⟩ := List.findIdx?_eq_some_iff_getElem.1 h2
      have h5 : c.gl[i] = g := by simpa using h4
      rw [← h5]; simp [h3]
    simp [SV.den, hR.gl i g hg, Act.eval]
  | func f => simp [opd] at h; subst h; simp [SV.den, SV.denL, Act.eval]
theorem opdL_ok (hf : FrOk ρ v fr a.tmps) (hR : Rep c ρ v s w) : ∀ {l : List Operand} {m : List SV}, opdL c fr l = some m → SV.denL ρ v m = some (l.map a.eval)
  | [], m, h => by simp [opdL] at h; subst h; rfl
  | x :: l, m, h => by
    simp only [opdL, Option.bind_eq_some_iff, Option.map_eq_some_iff] at h
    obtain ⟨y, h1, m, h2, rfl⟩ := h
    simp [SV.denL, opd_ok hf hR h1, opdL_ok hf hR h2]
inductive PairsOk (ρ : Rho) (v : Env) : List (Nat × SV) → List (Nat × Value) → Prop where
  | nil : PairsOk ρ v [] []
  | cons {i : Nat} {x : SV} {V : Value} {l : List (Nat × SV)} {L : List (Nat × Value)} (h : x.den ρ v = some V) (t : PairsOk ρ v l L) : PairsOk ρ v ((i, x) :: l) ((i, V) :: L)
theorem opdParts_ok (hf : FrOk ρ v fr a.tmps) (hR : Rep c ρ v s w) : ∀ {l : List (Nat × Operand)} {m : List (Nat × SV)}, opdParts c fr l = some m →
    PairsOk ρ v m (l.map fun (i, x) => (i, a.eval x))
  | [], m, h => by simp [opdParts] at h; subst h; exact .nil
  | (i, x) :: l, m, h => by
    simp only [opdParts, Option.bind_eq_some_iff, Option.map_eq_some_iff] at h
    obtain ⟨y, h1, m, h2, rfl⟩ := h
    exact .cons (opd_ok hf hR h1) (opdParts_ok hf hR h2)
theorem sizeB_ok {P : Program} {t : TypeId} {m : Nat} (h : sizeB P t = some m) (w : World) : (sizeOf t).run P w = .ok m w := by
  unfold sizeB at h
  cases hi : P.info? t with
  | none => simp [hi] at h
  | some i => simp [hi] at h; subst h; simp [sizeOf, typeInfo, hi]
theorem isAgg_run {P : Program} {t : TypeId} {d : TypeDesc} (h : P.underlying t = some d) (w : World) : (isAgg t).run P w = .ok d.isRow w := by
  unfold isAgg
  rw [Sem.run_bind, run_underlying h w]
  cases d <;> simp [TypeDesc.isRow]
theorem run_loadAt_one {P : Program} {t : TypeId} {d : TypeDesc} {b o : Nat} {V : Value} {w : World} (hc : w.cell? ⟨b, o, none⟩ = some V) (hu : P.underlying t = some d) (hd : d.isRow = false) :
    (Instr.loadAt t (.pointer (some ⟨b, o, none⟩))).run P w = .ok V w := by
  simp only [Instr.loadAt, Instr.sureAddr, loadVar, Sem.run_bind, Sem.run_pure, Result.andThen_ok, isAgg_run hu w, hd]
  simp [load, Sem.run, hc]
theorem row_of (hR : Rep c ρ v s w) {n : Nat} {b : Nat × Nat} (hn : ρ[n]? = some b) {cs : List SV} {ty : TypeId} (hs : s[n]? = some (.row cs ty)) :
    ∃ L X : List Value, SV.denL ρ v cs = some L ∧ w.heap[b.1]? = some (.cells (L ++ X).toArray ty (0, 0)) := by
  obtain ⟨b', o, h1, h2, L, X, h3, rfl⟩ := hR.blk n _ hs
  rw [hn] at h1
  simp at h1
  subst h1
  exact ⟨L, X, h3, h2⟩
theorem cell_at {w : World} {b : Nat} {L X : List Value} {ty : TypeId} (h : w.heap[b]? = some (.cells (L ++ X).toArray ty (0, 0))) {j : Nat} (hj : j < L.length) : w.cell? ⟨b, j, none⟩ = L[j]? := by
  rw [cell_of_row w b j _ _ _ h, List.getElem?_toArray, List.getElem?_append_left hj]
theorem range_at {w : World} {b : Nat} {L X : List Value} {ty : TypeId} (h : w.heap[b]? = some (.cells (L ++ X).toArray ty (0, 0))) (o m : Nat) : w.rangeAt b o ((L.drop o).take m) := by
  intro j V hj
  rw [List.getElem?_take] at hj
  split at hj
  · rw [List.getElem?_drop] at hj
    rw [cell_at h (List.getElem?_eq_some_iff.1 hj).1]; exact hj
  · simp at hj

/-! ### selection -/
theorem runOfVars_ok : ∀ {l : List E} {b : Nat}, runOfVars b l = true → ∀ (i : Nat) (e : E), l[i]? = some e → e = .var (b + i)
  | [], _, _, i, e, h => by simp at h
  | x :: l, b, h, i, e, hi => by
    cases x <;> simp [runOfVars] at h
    obtain ⟨rfl, h⟩ := h
    cases i with
    | zero => simp at hi; exact hi.symm
    | succ i => simp at hi; have := runOfVars_ok h i e hi; rw [this]; congr 1; omega
theorem selNest_ok {e : E} : ∀ {l : List E} {j : Nat} {x : E}, (h0 : (j : Int) ≤ e.i v) → l[(e.i v).toNat - j]? = some x → (selNest e j l).i v = x.i v
  | [], j, x, _, h => by simp at h
  | [y], j, x, h0, h => by
    simp only [selNest]
    have : (e.i v).toNat - j = 0 := by
      have := (List.getElem?_eq_some_iff.1 h).1; simp at this; omega
    rw [this] at h; simp at h; rw [h]
  | y :: z :: l, j, x, h0, h => by
    rw [selNest]
    · rw [mkIteE_i, mkCmp0_b]
      simp only [cmpB, E.i]
      by_cases he : e.i v = (j : Int)
      · have : (e.i v).toNat - j = 0 := by omega
        rw [this] at h
        simp at h
        simp [he, h]
      · have h1 : ((e.i v == (j : Int)) = false) := by simpa using he
        rw [h1, cond_false]
        refine selNest_ok (by omega) ?_
        rw [show (e.i v).toNat - j = ((e.i v).toNat - (j + 1)) + 1 by omega] at h
        simpa using h
    · intro h; cases h
theorem selNestB_ok {e : E} : ∀ {l : List E} {j : Nat} {x : E}, (h0 : (j : Int) ≤ e.i v) → l[(e.i v).toNat - j]? = some x → (selNestB e j l).b v = x.b v
  | [], j, x, _, h => by simp at h
  | [y], j, x, h0, h => by
    simp only [selNestB]
    have : (e.i v).toNat - j = 0 := by
      have := (List.getElem?_eq_some_iff.1 h).1; simp at this; omega
    rw [this] at h; simp at h; rw [h]
  | y :: z :: l, j, x, h0, h => by
    rw [selNestB]
    · rw [mkIteB_b, mkCmp0_b]
      simp only [cmpB, E.i]
      by_cases he : e.i v = (j : Int)
      · have : (e.i v).toNat - j = 0 := by omega
        rw [this] at h
        simp at h
        simp [he, h]
      · have h1 : ((e.i v == (j : Int)) = false) := by simpa using he
        rw [h1, cond_false]
        refine selNestB_ok (by omega) ?_
        rw [show (e.i v).toNat - j = ((e.i v).toNat - (j + 1)) + 1 by omega] at h
        simpa using h
    · intro h; cases h
theorem selE_ok {e : E} {l : List E} {x : E} (h0 : 0 ≤ e.i v) (h : l[(e.i v).toNat]? = some x) : (selE e l).i v = x.i v := by
  unfold selE
  split
  · rename_i b r
    cases hr : runOfVars (b + 1) r
    · exact selNest_ok h0 h
    · simp only [cond_true, E.i]
      have : runOfVars b (.var b :: r) = true := by simp [runOfVars, hr]
      rw [runOfVars_ok this _ _ h]
      simp [E.i]
  · exact selNest_ok h0 h
theorem intsOf_ok {k : IntKind} : ∀ {l : List SV} {m : List E}, intsOf k l = some m → l = m.map (SV.int k)
  | [], m, h => by simp [intsOf] at h; subst h; rfl
  | x :: l, m, h => by
    cases x <;> simp [intsOf] at h
    rename_i k' e
    cases hk : kindEq k k'
    · simp [hk] at h
    · simp only [hk, cond_true, Option.map_eq_some_iff] at h
      obtain ⟨m, h, rfl⟩ := h
      have : k = k' := by simpa [kindEq] using hk
      subst this
      rw [intsOf_ok h]; rfl
theorem boolsOf_ok : ∀ {l : List SV} {m : List E}, boolsOf l = some m → l = m.map SV.bool
  | [], m, h => by simp [boolsOf] at h; subst h; rfl
  | x :: l, m, h => by
    cases x <;> simp [boolsOf] at h
    obtain ⟨m, h, rfl⟩ := h
    rw [boolsOf_ok h]; rfl
theorem selSV_ok {e : E} {l : List SV} {x y : SV} (h0 : 0 ≤ e.i v) (hs : selSV e l = some y) (h : l[(e.i v).toNat]? = some x) : y.den ρ v = x.den ρ v := by
  unfold selSV at hs
  split at hs
  · simp at hs
  · rename_i k a r
    simp only [Option.map_eq_some_iff] at hs
    obtain ⟨m, hm, rfl⟩ := hs
    rw [intsOf_ok hm, ← List.map_cons, List.getElem?_map, Option.map_eq_some_iff] at h
    obtain ⟨z, hz, rfl⟩ := h
    simp only [SV.den, selE_ok h0 hz]
  · rename_i a r
    simp only [Option.map_eq_some_iff] at hs
    obtain ⟨m, hm, rfl⟩ := hs
    rw [boolsOf_ok hm, ← List.map_cons, List.getElem?_map, Option.map_eq_some_iff] at h
    obtain ⟨z, hz, rfl⟩ := h
    simp only [SV.den]
    rw [selNestB_ok (j := 0) (by simpa using h0) (by simpa using hz)]
  · rename_i z r _ _
    cases ha : r.all (fun y => z.eqb y)
    · simp [ha] at hs
    · simp only [ha, cond_true, Option.some.injEq] at hs
      subst hs
      have hx : x ∈ z :: r := List.mem_of_getElem? h
      simp at hx
      rcases hx with rfl | hx
      · rfl
      · have := (List.all_eq_true.1 ha) x hx
        rw [SV.eq_of_eqb this]
theorem strided_ok {cs : List SV} {st : Nat} : ∀ {n o : Nat} {l : List SV}, strided cs o st n = some l → ∀ i, i < n → l[i]? = cs[o + i * st]?
  | 0, _, _, _, i, hi => by omega
  | n + 1, o, l, h, i, hi => by
    simp only [strided, Option.bind_eq_some_iff, Option.map_eq_some_iff] at h
    obtain ⟨x, hx, l, hl, rfl⟩ := h
    cases i with
    | zero => simp [hx]
    | succ i =>
      have := strided_ok hl i (by omega)
      simp only [List.getElem?_cons_succ, this]
      congr 1
      rw [Nat.add_mul]; omega
theorem strided_some {cs : List SV} {st : Nat} : ∀ {n o : Nat} {l : List SV}, strided cs o st n = some l → l.length = n
  | 0, _, _, h => by simp [strided] at h; subst h; rfl
  | n + 1, o, l, h => by
    simp only [strided, Option.bind_eq_some_iff, Option.map_eq_some_iff] at h
    obtain ⟨x, hx, l, hl, rfl⟩ := h
    simp [strided_some hl]
theorem selCells_ok {cs : List SV} {L : List Value} (hL : SV.denL ρ v cs = some L) {e : E} {st cnt : Nat} (h0 : 0 ≤ e.i v) (h1 : (e.i v).toNat < cnt) : ∀ {m o : Nat} {l : List SV}, selCells cs e st cnt o m = some l →
    SV.denL ρ v l = some ((L.drop (o + (e.i v).toNat * st)).take m) ∧ l.length = m ∧ o + (e.i v).toNat * st + m ≤ L.length + (if m = 0 then o + (e.i v).toNat * st else 0)
  | 0, o, l, h => by simp [selCells] at h; subst h; simp [SV.denL]
  | m + 1, o, l, h => by
    simp only [selCells, Option.bind_eq_some_iff, Option.map_eq_some_iff] at h
    obtain ⟨q, hq, x, hx, l, hl, rfl⟩ := h
    have hg : (e.i v).toNat < q.length := by rw [strided_some hq]; exact h1
    obtain ⟨y, hy⟩ : ∃ y, q[(e.i v).toNat]? = some y := ⟨q[(e.i v).toNat], by simp [hg]⟩
    have hd : x.den ρ v = y.den ρ v := selSV_ok h0 hx hy
    rw [strided_ok hq _ h1] at hy
    obtain ⟨V, hV, hyV⟩ := denL_get hL hy
    obtain ⟨i1, i2, i3⟩ := selCells_ok hL h0 h1 hl
    have hlt := (List.getElem?_eq_some_iff.1 hV).1
    refine ⟨?_, by simp [i2], ?_⟩
    · simp only [SV.denL, hd, hyV, i1, Option.bind_some, Option.map_some, Option.some.injEq]
      rw [List.drop_eq_getElem_cons hlt, List.take_succ_cons]
      rw [show o + 1 + (e.i v).toNat * st = o + (e.i v).toNat * st + 1 by omega]
      congr 1
      have := (List.getElem?_eq_some_iff.1 hV).2
      exact this.symm
    · simp only [Nat.add_one_ne_zero, if_false, Nat.add_zero]
      by_cases hm : m = 0
      · subst hm; omega
      · simp only [hm, if_false] at i3; omega
end
end Go.Proofs.YtancmkdmlghlpaaGreatDoor.Ev
