/- The reckoner is right: statements, operations, calls. No statement is proved here. -/
import Derived.Test.YtancmkdmlghlpaaGreatDoorEvF
namespace Go.Proofs.YtancmkdmlghlpaaGreatDoor.Ev
open Go
/-- What the program has to be for the reckoner: checked once. -/
structure Fit (P : Program) : Prop where
  names : ∀ fn ∈ P.funcs.toList, fn.name ≠ "runtime.NumGoroutine"
  mixed : P.follows .mixedOrders = true
/-- What is known behind a piece of code. -/
def CPost (c : Cx) (v : Env) (ρ : Rho) (w : World) (l : CL) (Q : Exit → Act → World → Prop) : Prop :=
  ∀ e a' ρ' w', XOk ρ' v l.x e → Out ρ w ρ' w' → Rep c ρ' v l.s w' → FrOk ρ' v l.fr a'.tmps → DfOk c ρ' v l.df a'.defers → Q e a' w'
section
variable {c : Cx} {v : Env}
theorem CPost.trans {ρ ρ1 : Rho} {w w1 : World} {l : CL} {Q : Exit → Act → World → Prop} (h : CPost c v ρ w l Q) (ho : Out ρ w ρ1 w1) : CPost c v ρ1 w1 l Q :=
  fun e a' ρ' w' hx ho' hr hf hd => h e a' ρ' w' hx (ho.trans ho') hr hf hd
theorem guard_ok {ρ : Rho} {fr : List SV} {a : Act} {all : Array Oper} (hf : FrOk ρ v fr a.tmps) {j : Nat} {g : Option E} (h : guardE all fr j = some g) :
    yielded all a.tmps j = g.map fun e => e.b v := by
  unfold guardE at h
  unfold yielded
  cases hd : (all[j]?).bind (·.dst) with
  | none => simp [hd] at h; subst h; rfl
  | some d =>
    simp only [hd] at h
    simp only [Option.bind_some]
    split at h
    · rename_i hn
      simp at h; subst h
      have : a.tmps.size ≤ d := by
        have := List.getElem?_eq_none_iff.1 hn
        rw [hf.len] at this; exact this
      simp [this]
    · rename_i e he
      simp at h; subst h
      rcases hf.get d _ he with h1 | ⟨V, h1, h2⟩
      · cases h1
      · simp [SV.den] at h2
        subst h2
        simp [h1]
    · rename_i l he
      simp at h; subst h
      rcases hf.get d _ he with h1 | ⟨V, h1, h2⟩
      · cases h1
      · simp only [SV.den, Option.map_eq_some_iff] at h2
        obtain ⟨_, _, rfl⟩ := h2
        simp [h1]
    · rename_i k e he
      simp at h; subst h
      rcases hf.get d _ he with h1 | ⟨V, h1, h2⟩
      · cases h1
      · simp [SV.den] at h2
        subst h2
        simp [h1]
    · simp at h
theorem wanted_eq (o : Oper) (a : Act) (all : Array Oper) : Region.wanted o (yielded all a.tmps) = match o.guard with | none => true | some (j, want) => yielded all a.tmps j == some want := rfl
theorem headDown_ok {ops : Array Oper} {F : List Nat} : ∀ {k : Nat}, headB ops F k = true → headB ops F (headDown ops F k) = true
  | 0, h => h
  | k + 1, h => by
    unfold headDown
    cases hk : headB ops F k
    · exact h
    · exact headDown_ok hk
theorem headOf_ok {ops : Array Oper} {F : List Nat} {k : Nat} (h : headOf ops = some (F, k)) : headB ops F k = true ∧ F = [] := by
  unfold headOf at h
  cases h1 : headB ops [] ops.size
  · simp only [h1, cond_false] at h
    cases h2 : headB ops [] (ops.size - 1)
    · simp [h2] at h
    · simp only [h2, cond_true, Option.some.injEq, Prod.mk.injEq] at h
      obtain ⟨rfl, rfl⟩ := h; exact ⟨headDown_ok h2, rfl⟩
  · simp only [h1, cond_true, Option.some.injEq, Prod.mk.injEq] at h
    obtain ⟨rfl, rfl⟩ := h; exact ⟨headDown_ok h1, rfl⟩
theorem headOfF_ok {ops : Array Oper} {F : List Nat} {k : Nat} (h : headOfF ops = some (F, k)) : headB ops F k = true ∧ (∀ i ∈ F, floatB ops i = true) := by
  have hnil : ∀ {F : List Nat} {k : Nat}, headOf ops = some (F, k) → headB ops F k = true ∧ (∀ i ∈ F, floatB ops i = true) := by
    intro F k h
    obtain ⟨h1, rfl⟩ := headOf_ok h
    exact ⟨h1, (fun i hi => absurd hi (by simp))⟩
  unfold headOfF at h
  split at h
  · exact hnil h
  · cases h1 : headB ops (floatsOf ops) ops.size
    · rw [h1] at h; exact hnil h
    · rw [h1] at h
      simp only [cond_true, Option.some.injEq, Prod.mk.injEq] at h
      obtain ⟨rfl, rfl⟩ := h
      refine ⟨headDown_ok h1, fun i hi => ?_⟩
      unfold floatsOf at hi
      have := (List.mem_filter.1 hi).2
      simp only [Bool.and_eq_true] at this
      exact this.2
theorem fltOk_ok {ρ : Rho} {fr : List SV} {a : Act} {s : St} {w : World} {ops : Array Oper} {i : Nat} (hf : FrOk ρ v fr a.tmps) (hR : Rep c ρ v s w) (hb : floatB ops i = true) (h : fltOk c fr ops i = true) : PureAt c.P ops i a := by
  unfold fltOk at h
  split at h
  case h_2 => cases h
  rename_i o ho
  refine ⟨o, ho, fun b hbe => ?_⟩
  split at h
  · rename_i x hop
    refine ⟨b.eval x, fun w' => ?_⟩
    simp only [execOp, hop]
    rfl
  · rename_i op ty x y yt hop
    split at h
    case h_2 => cases h
    rename_i k A l B hx hy
    have hk : k = l := by simpa [kindEq] using h
    subst hk
    have h1 := opd_ok hf hR hx
    have h2 := opd_ok hf hR hy
    simp only [SV.den, Option.some.injEq] at h1 h2
    have e1 : b.eval x = .int k (A.i v) := by rw [hbe x (by rw [hop]; simp [Op.operands]), ← h1]
    have e2 : b.eval y = .int k (B.i v) := by rw [hbe y (by rw [hop]; simp [Op.operands]), ← h2]
    have har : arithB op = true := by
      unfold floatB at hb
      rw [ho] at hb
      obtain ⟨od, oop, oty, opos, oaf, og⟩ := o
      simp only at hop
      subst hop
      cases od with
      | none => simp at hb
      | some d =>
        cases og with
        | some g => simp at hb
        | none => simp only [Bool.and_eq_true] at hb; exact hb.1.1
    refine ⟨.int k (binI op k (A.i v) (B.i v)), fun w' => ?_⟩
    simp only [execOp, hop, e1, e2]
    cases op <;> first | (simp [arithB] at har; done) | (simp [eqGuard, binOp, Op.intArith, Op.intBits, binI]; done) | (simp [eqGuard, binOp, Op.intArith, Op.intBits, binI]; rfl)
  · cases h
/-- The worlds of a quiet head. -/
def Cls (c : Cx) (v : Env) (ρ : Rho) (s : St) (w0 : World) : World → Prop := fun w => Rep c ρ v s w ∧ Out ρ w0 ρ w

/-- Why a frame is being left. -/
def MOk (ρ : Rho) (v : Env) : Option SV → FrameMode → Prop
  | none, u => u = .returning
  | some x, u => ∃ V, x.den ρ v = some V ∧ u = .panicking [{ v := V, recovered := false }]
structure Right (c : Cx) (v : Env) (n : Nat) : Prop where
  C : ∀ {code : Code} {fr : List SV} {s : St} {p : Path} {df : Df} {a : Act} {ρ : Rho} {w : World} {l : CL} {Q : Exit → Act → World → Prop}, FrOk ρ v fr a.tmps → DfOk c ρ v df a.defers → Rep c ρ v s w → PathOk v p →
    (evC c n code fr s p df).pick v = some l → CPost c v ρ w l Q → code.wp c.P Q a w
  L : ∀ {b : Code} {fr : List SV} {s : St} {p : Path} {df : Df} {a : Act} {ρ : Rho} {w : World} {l : CL} {Q : Exit → Act → World → Prop}, FrOk ρ v fr a.tmps → DfOk c ρ v df a.defers → Rep c ρ v s w → PathOk v p →
    (evC c n (.loop b) fr s p df).pick v = some l → CPost c v ρ w l Q → Code.rounds c.P b Q n a w
  O : ∀ {all : Array Oper} {rest : List Oper} {fr : List SV} {s : St} {p : Path} {df : Df} {a : Act} {ρ : Rho} {w : World} {l : CL} {Q : Exit → Act → World → Prop}, FrOk ρ v fr a.tmps → DfOk c ρ v df a.defers → Rep c ρ v s w → PathOk v p →
    (evOps c n all rest fr s p df).pick v = some l → CPost c v ρ w l Q → wpList c.P all Q rest a w
  H : ∀ {all : Array Oper} {rest : List Oper} {fr fr' : List SV} {s : St} {p : Path} {a : Act} {ρ : Rho} {w0 w : World}, FrOk ρ v fr a.tmps → Cls c v ρ s w0 w → PathOk v p →
    (evHead c n all rest fr s p).pick v = some fr' → ∃ a', headSeq c.P all (Cls c v ρ s w0) rest a a' ∧ FrOk ρ v fr' a'.tmps ∧ a'.defers = a.defers
  F : ∀ {f : FuncId} {args : List SV} {s : St} {p : Path} {L : List Value} {ρ : Rho} {w : World} {l : FL}, SV.denL ρ v args = some L → Rep c ρ v s w → PathOk v p →
    (evF c n f args s p).pick v = some l → Calls c.P f L.toArray w (FPost c v ρ w l)
  V : ∀ {fn : Func} {fr : List SV} {s : St} {p : Path} {df : Df} {m : Option SV} {u : FrameMode} {tmps : Array Value} {ds : List Deferred} {ρ : Rho} {w : World} {l : FL} {R : Ending → World → Prop}, FrOk ρ v fr tmps → DfOk c ρ v df ds → Rep c ρ v s w → PathOk v p → MOk ρ v m u →
    (evLv c n fn.results.toList fr s p df m).pick v = some l → (∀ e w', FPost c v ρ w l e w' → R e w') → Leaves c.P fn tmps R ds u w

theorem right_zero : Right c v 0 :=
  ⟨fun _ _ _ _ h _ => by simp [evC, T.pick] at h, fun _ _ _ _ h _ => by simp [evC, T.pick] at h, fun _ _ _ _ h _ => by simp [evOps, T.pick] at h, fun _ _ _ h => by simp [evHead, T.pick] at h, fun _ _ _ h => by simp [evF, T.pick] at h,
    fun _ _ _ _ _ h _ => by simp [evLv, T.pick] at h⟩

theorem right_C (hP : Fit c.P) {n : Nat} (ih : Right c v n) {code : Code} {fr : List SV} {s : St} {p : Path} {df : Df} {a : Act} {ρ : Rho} {w : World} {l : CL} {Q : Exit → Act → World → Prop} (hf : FrOk ρ v fr a.tmps) (hd : DfOk c ρ v df a.defers)
    (hR : Rep c ρ v s w) (hp : PathOk v p) (h : (evC c (n + 1) code fr s p df).pick v = some l) (hQ : CPost c v ρ w l Q) : code.wp c.P Q a w := by
  have leaf : ∀ {x : X} {e : Exit}, XOk ρ v x e → (T.leaf ⟨x, fr, s, df⟩ : T CL).pick v = some l → Q e a w := by
    intro x e hx hl
    simp only [T.pick, Option.some.injEq] at hl
    subst hl
    exact hQ e a ρ w hx (Out.refl _ _) hR hf hd
  cases code
  case skip => simp only [evC] at h; exact wp_skip (leaf (x := .normal) rfl h)
  case label => simp only [evC] at h; exact wp_label (leaf (x := .normal) rfl h)
  case ret => simp only [evC] at h; exact wp_ret (leaf (x := .ret) rfl h)
  case exit id => simp only [evC] at h; exact wp_exit (leaf (x := .exit id) rfl h)
  case rangeFunc => simp [evC, T.pick] at h
  case goto => simp [evC, T.pick] at h
  case refuse => simp [evC, T.pick] at h
  case seq x y =>
    simp only [evC] at h
    obtain ⟨l1, p', h1, hp', h2⟩ := pick_bnd hp h
    refine wp_seq (ih.C hf hd hR hp h1 ?_)
    intro e a' ρ' w' hx ho hr hf' hd'
    split at h2
    · rename_i hx1
      rw [hx1] at hx
      have : e = .normal := hx
      subst this
      exact ih.C hf' hd' hr hp' h2 (hQ.trans ho)
    · rename_i hne
      simp only [T.pick, Option.some.injEq] at h2
      subst h2
      have hq := hQ e a' ρ' w' hx ho hr hf' hd'
      cases e with
      | normal =>
        cases hlx : l1.x <;> rw [hlx] at hx
        · exact (hne hlx).elim
        · cases hx
        · cases hx
        · obtain ⟨_, _, h3⟩ := hx; cases h3
      | exit id => exact hq
      | goto l => exact hq
      | ret => exact hq
      | panic ch => exact hq
      | outgrown => exact hq
  case cond x t e =>
    simp only [evC] at h
    split at h
    · rename_i b hb
      have hv := opd_ok hf hR hb
      simp only [SV.den, Option.some.injEq] at hv
      refine wp_cond hv.symm ?_
      obtain ⟨p', hp', ⟨hc, hq⟩ | ⟨hc, hq⟩⟩ := pick_mkIf hp h
      · rw [hc]; exact ih.C hf hd hR hp' hq hQ
      · rw [hc]; exact ih.C hf hd hR hp' hq hQ
    · simp [T.pick] at h
  case block id b =>
    simp only [evC] at h
    obtain ⟨l1, p', h1, hp', h2⟩ := pick_bnd hp h
    refine wp_block (ih.C hf hd hR hp h1 ?_)
    intro e a' ρ' w' hx ho hr hf' hd'
    split at h2
    · rename_i j hx1
      rw [hx1] at hx
      have : e = .exit j := hx
      subst this
      split at h2
      · rename_i hj
        simp only [T.pick, Option.some.injEq] at h2
        subst h2
        simp only [Exit.inBlock, hj, if_true]
        exact hQ .normal a' ρ' w' rfl ho hr hf' hd'
      · rename_i hj
        simp only [T.pick, Option.some.injEq] at h2
        subst h2
        simp only [Exit.inBlock, hj, if_false]
        exact hQ (.exit j) a' ρ' w' (by rw [hx1]; rfl) ho hr hf' hd'
    · rename_i hne
      simp only [T.pick, Option.some.injEq] at h2
      subst h2
      have hq := hQ e a' ρ' w' hx ho hr hf' hd'
      cases e with
      | exit id' =>
        cases hlx : l1.x <;> rw [hlx] at hx
        · cases hx
        · exact (hne _ hlx).elim
        · cases hx
        · obtain ⟨_, _, h3⟩ := hx; cases h3
      | normal => exact hq
      | goto l => exact hq
      | ret => exact hq
      | panic ch => exact hq
      | outgrown => exact hq
  case scope b =>
    simp only [evC] at h
    refine wp_scope_straight (ih.C hf hd hR hp h ?_)
    intro e a' ρ' w' hx ho hr hf' hd'
    have hq := hQ e a' ρ' w' hx ho hr hf' hd'
    cases e with
    | goto g =>
      cases hlx : l.x <;> rw [hlx] at hx
      · cases hx
      · cases hx
      · cases hx
      · obtain ⟨_, _, h3⟩ := hx; cases h3
    | normal => exact hq
    | exit id => exact hq
    | ret => exact hq
    | panic ch => exact hq
    | outgrown => exact hq
  case loop b =>
    simp only [evC] at h
    obtain ⟨l1, p', h1, hp', h2⟩ := pick_bnd hp h
    refine wp_loop_rounds (n + 1) ?_
    rw [rounds_succ]
    refine ih.C hf hd hR hp h1 ?_
    intro e a' ρ' w' hx ho hr hf' hd'
    split at h2
    · rename_i hx1
      rw [hx1] at hx
      have : e = .normal := hx
      subst this
      exact ih.L hf' hd' hr hp' h2 (hQ.trans ho)
    · rename_i hne
      simp only [T.pick, Option.some.injEq] at h2
      subst h2
      have hq := hQ e a' ρ' w' hx ho hr hf' hd'
      cases e with
      | normal =>
        cases hlx : l1.x <;> rw [hlx] at hx
        · exact (hne hlx).elim
        · cases hx
        · cases hx
        · obtain ⟨_, _, h3⟩ := hx; cases h3
      | exit id => exact hq
      | goto l => exact hq
      | ret => exact hq
      | panic ch => exact hq
      | outgrown => exact hq
  case region id ops draw =>
    simp only [evC] at h
    cases draw
    · simp only [cond_false] at h
      exact wp_region_list (ih.O hf hd hR hp h hQ)
    · simp only [cond_true] at h
      split at h
      · rename_i F k hk
        obtain ⟨hB, hF⟩ := headOfF_ok hk
        obtain ⟨fr', p', h1, hp', h2⟩ := pick_bnd hp h
        cases hfl : F.all (fltOk c fr' ops)
        · simp [hfl, T.pick] at h2
        simp only [hfl, cond_true] at h2
        obtain ⟨l1, p'', h8, hp'', h6⟩ := pick_bnd hp' h2
        have hC : Cls c v ρ s w { w with drawn := w.drawn + 1 } := ⟨hR.drawn _, ⟨⟨[], by simp, by simp⟩, rfl, rfl, rfl, Nat.le_refl _, fun _ _ _ => rfl, fun _ o h => ⟨o, h, Sh.refl o⟩⟩⟩
        obtain ⟨a', h3, h4, h5⟩ := ih.H hf hC hp h1
        have hPu : ∀ i ∈ F, PureAt c.P ops i a' := fun i hi => fltOk_ok h4 hC.1 (hF i hi) (List.all_eq_true.1 hfl i hi)
        cases F with
        | nil =>
          have h7 : l1 = l := by
            cases hlx : l1.x <;> simpa [hlx, T.pick] using h6
          subst h7
          refine region_head hP.mixed hB hF hPu (.inl rfl) h3 hC (fun w' hC' => ?_)
          exact ih.O h4 (by rw [h5]; exact hd) hC'.1 hp' h8 (hQ.trans hC'.2)
        | cons i F =>
          have h7 : (∀ x, l1.x ≠ .pan x) ∧ l1 = l := by
            cases hlx : l1.x with
            | pan x => simp [hlx, T.pick] at h6
            | _ => exact ⟨(fun x hx => X.noConfusion hx), by simpa [hlx, T.pick] using h6⟩
          obtain ⟨hnp, rfl⟩ := h7
          refine Code.wp_mono (Q := fun e a w => (∀ ch, e ≠ .panic ch) ∧ Q e a w) (fun e a w h => h.2) ?_
          refine region_head hP.mixed hB hF hPu (.inr fun ch a w h => h.1 ch rfl) h3 hC (fun w' hC' => ?_)
          refine ih.O h4 (by rw [h5]; exact hd) hC'.1 hp' h8 ?_
          intro e a2 ρ2 w2 hx ho hr hf' hd'
          refine ⟨fun ch he => ?_, hQ.trans hC'.2 e a2 ρ2 w2 hx ho hr hf' hd'⟩
          subst he
          cases hlx : l1.x with
          | pan x => exact hnp x hlx
          | _ => rw [hlx] at hx; cases hx
      · simp [T.pick] at h

theorem right_L {n : Nat} (ih : Right c v n) {b : Code} {fr : List SV} {s : St} {p : Path} {df : Df} {a : Act} {ρ : Rho} {w : World} {l : CL} {Q : Exit → Act → World → Prop} (hf : FrOk ρ v fr a.tmps) (hd : DfOk c ρ v df a.defers)
    (hR : Rep c ρ v s w) (hp : PathOk v p) (h : (evC c (n + 1) (.loop b) fr s p df).pick v = some l) (hQ : CPost c v ρ w l Q) : Code.rounds c.P b Q (n + 1) a w := by
  simp only [evC] at h
  obtain ⟨l1, p', h1, hp', h2⟩ := pick_bnd hp h
  rw [rounds_succ]
  refine ih.C hf hd hR hp h1 ?_
  intro e a' ρ' w' hx ho hr hf' hd'
  split at h2
  · rename_i hx1
    rw [hx1] at hx
    have : e = .normal := hx
    subst this
    exact ih.L hf' hd' hr hp' h2 (hQ.trans ho)
  · rename_i hne
    simp only [T.pick, Option.some.injEq] at h2
    subst h2
    have hq := hQ e a' ρ' w' hx ho hr hf' hd'
    cases e with
    | normal =>
      cases hlx : l1.x <;> rw [hlx] at hx
      · exact (hne hlx).elim
      · cases hx
      · cases hx
      · obtain ⟨_, _, h3⟩ := hx; cases h3
    | exit id => exact hq
    | goto l => exact hq
    | ret => exact hq
    | panic ch => exact hq
    | outgrown => exact hq

theorem right_O (hP : Fit c.P) {n : Nat} (ih : Right c v n) {all : Array Oper} {rest : List Oper} {fr : List SV} {s : St} {p : Path} {df : Df} {a : Act} {ρ : Rho} {w : World} {l : CL} {Q : Exit → Act → World → Prop} (hf : FrOk ρ v fr a.tmps) (hd : DfOk c ρ v df a.defers)
    (hR : Rep c ρ v s w) (hp : PathOk v p) (h : (evOps c (n + 1) all rest fr s p df).pick v = some l) (hQ : CPost c v ρ w l Q) : wpList c.P all Q rest a w := by
  cases rest with
  | nil =>
    rw [evOps] at h
    simp only [T.pick, Option.some.injEq] at h
    subst h
    exact wpList_nil (hQ .normal a ρ w rfl (Out.refl _ _) hR hf hd)
  | cons o rest =>
    rw [evOps] at h
    have hrun : ∀ {p : Path}, PathOk v p → ((opEv c fr s p o.op).bnd p fun r p =>
      match r with
      | .val x s => evOps c n all rest (putF fr o.dst x) s p df
      | .skip s => evOps c n all rest (putF fr o.dst .undef) s p df
      | .call f args => (evF c n f args s p).bnd p fun l p =>
        match l.e with
        | .ret x => evOps c n all rest (putF fr o.dst x) l.s p df
        | .pan x => .leaf ⟨.pan x, fr, l.s, df⟩
      | .pan x => .leaf ⟨.pan x, fr, s, df⟩
      | .dfr f args => evOps c n all rest (putF fr o.dst .undef) s p ((f, args) :: df)).pick v = some l → o.wp c.P a w (wpList c.P all Q rest) Q := by
      intro p hp h
      obtain ⟨r, p', h1, hp', h2⟩ := pick_bnd hp h
      have hop := opEv_ok hP.names hf hR hp h1
      unfold Oper.wp
      cases r with
      | val x s' =>
        obtain ⟨V, ρ', w', e1, e2, e3, e4⟩ := hop
        rw [e1, Oper.upon_value]
        exact ih.O ((hf.mono e2).put e4 o.dst) (by rw [put_defers]; exact hd.mono e2) e3 hp' h2 (hQ.trans e2)
      | skip s' =>
        obtain ⟨ρ', w', e1, e2, e3⟩ := hop
        rw [e1, Oper.upon_skip]
        exact ih.O ((hf.mono e2).put den_undef o.dst) (by rw [put_defers]; exact hd.mono e2) e3 hp' h2 (hQ.trans e2)
      | call f args =>
        obtain ⟨L, e1, e2⟩ := hop
        rw [e1, Oper.upon_enter]
        obtain ⟨l1, p'', h3, hp'', h4⟩ := pick_bnd hp' h2
        refine (ih.F e2 hR hp' h3).mono ?_
        intro e w' hpost
        obtain ⟨ρ', ho, hr, he⟩ := hpost
        cases hle : l1.e with
        | ret x =>
          rw [hle] at he h4
          obtain ⟨V, hV, rfl⟩ := he
          exact ih.O ((hf.mono ho).put hV o.dst) (by rw [put_defers]; exact hd.mono ho) hr hp'' h4 (hQ.trans ho)
        | pan x =>
          rw [hle] at he h4
          obtain ⟨V, hV, rfl⟩ := he
          simp only [T.pick, Option.some.injEq] at h4
          subst h4
          exact hQ _ a ρ' w' ⟨V, hV, rfl⟩ ho hr (hf.mono ho) (hd.mono ho)
      | dfr g args =>
        obtain ⟨L1, L2, e1, e2, e3⟩ := hop
        rw [e1, Oper.upon_defer]
        refine ih.O (a := { a with defers := _ :: a.defers }.put o.dst undef) (hf.put (a := { a with defers := _ :: a.defers }) den_undef o.dst) ?_ hR hp' h2 hQ
        rw [put_defers]
        exact .cons e2 e3 hd
      | pan x =>
        obtain ⟨V, e1, e2⟩ := hop
        rw [e1, Oper.upon_panic]
        simp only [T.pick, Option.some.injEq] at h2
        subst h2
        exact hQ _ a ρ w ⟨V, e2, rfl⟩ (Out.refl _ _) hR hf hd
    have hskip : ∀ {p : Path}, PathOk v p → (evOps c n all rest (putF fr o.dst .undef) s p df).pick v = some l → wpList c.P all Q rest (a.put o.dst undef) w := by
      intro p hp h
      exact ih.O (hf.put den_undef o.dst) (by rw [put_defers]; exact hd) hR hp h hQ
    unfold wpList
    rw [wanted_eq]
    cases hg : o.guard with
    | none =>
      simp only [hg] at h
      simp only [if_true]
      exact .inl (hrun hp h)
    | some g =>
      obtain ⟨j, want⟩ := g
      simp only [hg] at h
      cases hge : guardE all fr j with
      | none => simp [hge, T.pick] at h
      | some ge =>
        have hy := guard_ok hf hge
        simp only [hge] at h
        cases ge with
        | none =>
          simp only [hy, Option.map_none]
          exact hskip hp h
        | some e =>
          simp only [hy, Option.map_some]
          obtain ⟨p', hp', ⟨hc, hq⟩ | ⟨hc, hq⟩⟩ := pick_mkIf hp h
          · have : (some (e.b v) == some want) = true := by
              cases want
              · simp [mkNot_b] at hc; simp [hc]
              · simp at hc; simp [hc]
            simp only [this, if_true]
            exact .inl (hrun hp' hq)
          · have : (some (e.b v) == some want) = false := by
              cases want
              · simp [mkNot_b] at hc; simp [hc]
              · simp at hc; simp [hc]
            simp only [this, Bool.false_eq_true, if_false]
            exact hskip hp' hq

theorem right_H (hP : Fit c.P) {n : Nat} (ih : Right c v n) {all : Array Oper} {rest : List Oper} {fr fr' : List SV} {s : St} {p : Path} {a : Act} {ρ : Rho} {w0 w : World} (hf : FrOk ρ v fr a.tmps)
    (hC : Cls c v ρ s w0 w) (hp : PathOk v p) (h : (evHead c (n + 1) all rest fr s p).pick v = some fr') : ∃ a', headSeq c.P all (Cls c v ρ s w0) rest a a' ∧ FrOk ρ v fr' a'.tmps ∧ a'.defers = a.defers := by
  cases rest with
  | nil =>
    rw [evHead] at h
    simp only [T.pick, Option.some.injEq] at h
    subst h
    exact ⟨a, rfl, hf, rfl⟩
  | cons o rest =>
    rw [evHead] at h
    have hrun : ∀ {p : Path}, PathOk v p → Region.wanted o (yielded all a.tmps) = true → ((opEv c fr s p o.op).bnd p fun r p =>
      match r with
      | .val x s' => bif stEqb s' s && x.sc s.length then evHead c n all rest (putF fr o.dst x) s p else .fail 214
      | .call f args => (evF c n f args s p).bnd p fun l p =>
        match l.e with
        | .ret x => bif stEqb l.s s && x.sc s.length then evHead c n all rest (putF fr o.dst x) s p else .fail 215
        | .pan _ => .fail 216
      | _ => .fail 217).pick v = some fr' → ∃ a', headSeq c.P all (Cls c v ρ s w0) (o :: rest) a a' ∧ FrOk ρ v fr' a'.tmps ∧ a'.defers = a.defers := by
      intro p hp hw h
      obtain ⟨r, p', h1, hp', h2⟩ := pick_bnd hp h
      cases r with
      | val x s' =>
        simp only at h2
        cases hcond : (stEqb s' s && x.sc s.length)
        · simp [hcond, T.pick] at h2
        simp only [hcond, cond_true] at h2
        simp only [Bool.and_eq_true] at hcond
        have hs := stEqb_eq hcond.1
        subst hs
        have each : ∀ w1, Cls c v ρ s' w0 w1 → ∃ V, x.den ρ v = some V ∧ ∃ w', (execOp a.eval o).run c.P w1 = .ok (.value V) w' ∧ Cls c v ρ s' w0 w' := by
          intro w1 hC1
          obtain ⟨V, ρ', w', e1, e2, e3, e4⟩ := opEv_ok hP.names hf hC1.1 hp h1
          have e2' := e2
          obtain ⟨⟨ns, rfl, _⟩, _⟩ := e2'
          have hl1 := hC1.1.len
          have hl2 := e3.len
          have hns : ns = [] := by
            have : ns.length = 0 := by simp at hl2; omega
            exact List.length_eq_zero_iff.1 this
          subst hns
          rw [List.append_nil] at e2 e3 e4
          exact ⟨V, e4, w', e1, e3, hC1.2.trans e2⟩
        obtain ⟨V, hV, _⟩ := each w hC
        obtain ⟨a', h3, h4, h5⟩ := ih.H (hf.put hV o.dst) hC hp' h2
        refine ⟨a', ⟨V, .inl ⟨hw, fun w1 hC1 => ?_⟩, h3⟩, h4, h5.trans (put_defers _ _ _)⟩
        obtain ⟨V', hV', w', e1, e2⟩ := each w1 hC1
        rw [hV] at hV'
        simp at hV'
        subst hV'
        exact .inl ⟨w', e1, e2⟩
      | skip s' => simp [T.pick] at h2
      | pan x => simp [T.pick] at h2
      | dfr g args => simp [T.pick] at h2
      | call f args =>
        obtain ⟨l1, p'', h3, hp'', h4⟩ := pick_bnd hp' h2
        cases hle : l1.e with
        | pan x => simp [hle, T.pick] at h4
        | ret x =>
          simp only [hle] at h4
          cases hcond : (stEqb l1.s s && x.sc s.length)
          · simp [hcond, T.pick] at h4
          simp only [hcond, cond_true] at h4
          simp only [Bool.and_eq_true] at hcond
          have hs := stEqb_eq hcond.1
          have hden : ∀ {ns : Rho} {V : Value}, x.den (ρ ++ ns) v = some V → x.den ρ v = some V := by
            intro ns V hx
            rw [← SV.den_sc (ns := ns) (by rw [← hC.1.len]; exact hcond.2)]; exact hx
          have each : ∀ w1, Cls c v ρ s w0 w1 → ∃ L : List Value, (execOp a.eval o).run c.P w1 = .ok (.enter f L.toArray) w1 ∧ Calls c.P f L.toArray w1 (fun e w'' => ∃ V, x.den ρ v = some V ∧ e = .returned V ∧ Cls c v ρ s w0 w'') := by
            intro w1 hC1
            obtain ⟨L, e1, e2⟩ := opEv_ok hP.names hf hC1.1 hp h1
            refine ⟨L, e1, (ih.F e2 hC1.1 hp' h3).mono ?_⟩
            rintro e w'' ⟨ρ', ho, hr, he⟩
            rw [hle] at he
            obtain ⟨V, hV, rfl⟩ := he
            have ho' := ho
            obtain ⟨⟨ns, rfl, _⟩, _⟩ := ho'
            rw [hs] at hr
            have hl1 := hC1.1.len
            have hl2 := hr.len
            have hns : ns = [] := by
              have : ns.length = 0 := by simp at hl2; omega
              exact List.length_eq_zero_iff.1 this
            subst hns
            rw [List.append_nil] at ho hr hV
            exact ⟨V, hV, rfl, hr, hC1.2.trans ho⟩
          by_cases hex : ∃ V, x.den ρ v = some V
          · obtain ⟨V, hV⟩ := hex
            obtain ⟨a', h5, h6, h7⟩ := ih.H (hf.put hV o.dst) hC hp'' h4
            refine ⟨a', ⟨V, .inl ⟨hw, fun w1 hC1 => ?_⟩, h5⟩, h6, h7.trans (put_defers _ _ _)⟩
            obtain ⟨L, e1, e2⟩ := each w1 hC1
            refine .inr ⟨f, L.toArray, e1, e2.mono ?_⟩
            rintro e w'' ⟨V', hV', rfl, hC''⟩
            rw [hV] at hV'
            simp at hV'
            subst hV'
            exact ⟨rfl, hC''⟩
          · exfalso
            obtain ⟨L, e1, e2⟩ := each w hC
            obtain ⟨e, w', fr, ⟨V, hV, _⟩, _⟩ := e2 []
            exact hex ⟨V, hV⟩
    have hskip : ∀ {p : Path}, PathOk v p → Region.wanted o (yielded all a.tmps) = false → (evHead c n all rest (putF fr o.dst .undef) s p).pick v = some fr' → ∃ a', headSeq c.P all (Cls c v ρ s w0) (o :: rest) a a' ∧ FrOk ρ v fr' a'.tmps ∧ a'.defers = a.defers := by
      intro p hp hw h
      obtain ⟨a', h3, h4, h5⟩ := ih.H (hf.put den_undef o.dst) hC hp h
      exact ⟨a', ⟨undef, .inr ⟨hw, rfl⟩, h3⟩, h4, h5.trans (put_defers _ _ _)⟩
    have hwe := wanted_eq o a all
    cases hg : o.guard with
    | none =>
      simp only [hg] at h hwe
      exact hrun hp hwe h
    | some g =>
      obtain ⟨j, want⟩ := g
      simp only [hg] at h hwe
      cases hge : guardE all fr j with
      | none => simp [hge, T.pick] at h
      | some ge =>
        have hy := guard_ok hf hge
        rw [hy] at hwe
        simp only [hge] at h
        cases ge with
        | none => exact hskip hp hwe h
        | some e =>
          simp only [Option.map_some] at hwe
          obtain ⟨p', hp', ⟨hc, hq⟩ | ⟨hc, hq⟩⟩ := pick_mkIf hp h
          · have : (some (e.b v) == some want) = true := by
              cases want
              · simp [mkNot_b] at hc; simp [hc]
              · simp at hc; simp [hc]
            exact hrun hp' (hwe.trans this) hq
          · have : (some (e.b v) == some want) = false := by
              cases want
              · simp [mkNot_b] at hc; simp [hc]
              · simp at hc; simp [hc]
            exact hskip hp' (hwe.trans this) hq

theorem FPost.trans {ρ ρ1 : Rho} {w w1 : World} {l : FL} {e : Ending} {w' : World} (ho : Out ρ w ρ1 w1) (h : FPost c v ρ1 w1 l e w') : FPost c v ρ w l e w' := by
  obtain ⟨ρ', h1, h2, h3⟩ := h
  exact ⟨ρ', ho.trans h1, h2, h3⟩
/-- The frame at a call's beginning. -/
theorem entry_ok {ρ : Rho} {args : List SV} {L : List Value} (hL : SV.denL ρ v args = some L) (m : Nat) : FrOk ρ v (args ++ List.replicate (m - args.length) .undef) (L.toArray ++ Array.replicate (m - L.toArray.size) undef) := by
  have hlen := denL_length hL
  refine ⟨by simp [hlen], fun i x hi => ?_⟩
  by_cases hia : i < args.length
  · rw [List.getElem?_append_left hia] at hi
    obtain ⟨V, hV, hd⟩ := denL_get hL hi
    right
    refine ⟨V, ?_, hd⟩
    rw [Array.getElem?_append_left (by simp; omega)]
    simpa using hV
  · rw [List.getElem?_append_right (by omega), List.getElem?_replicate] at hi
    split at hi
    · rename_i hlt
      simp at hi
      subst hi
      right
      refine ⟨undef, ?_, den_undef⟩
      rw [Array.getElem?_append_right (by simp; omega), Array.getElem?_replicate]
      have h9 : i - L.toArray.size < m - L.toArray.size := by simp only [List.size_toArray, hlen]; exact hlt
      rw [if_pos h9]
    · simp at hi

theorem right_V {n : Nat} (hP : Fit c.P) (ih : Right c v n) {fn : Func} {fr : List SV} {s : St} {p : Path} {df : Df} {m : Option SV} {u : FrameMode} {tmps : Array Value} {ds : List Deferred} {ρ : Rho} {w : World} {l : FL} {R : Ending → World → Prop}
    (hf : FrOk ρ v fr tmps) (hd : DfOk c ρ v df ds) (hR : Rep c ρ v s w) (hp : PathOk v p) (hm : MOk ρ v m u) (h : (evLv c (n + 1) fn.results.toList fr s p df m).pick v = some l) (hQ : ∀ e w', FPost c v ρ w l e w' → R e w') : Leaves c.P fn tmps R ds u w := by
  cases hd with
  | nil =>
    cases m with
    | none =>
      have hu : u = .returning := hm
      subst hu
      simp only [evLv] at h
      cases hres : resAll c fr s p fn.results.toList with
      | none => simp [hres, T.pick] at h
      | some x =>
        simp only [hres, T.pick, Option.some.injEq] at h
        obtain ⟨V, h1, h2⟩ := resAll_ok hf hR hp hres
        exact ⟨V, h1, hQ _ _ ⟨ρ, Out.refl _ _, by rw [← h]; exact hR, by rw [← h]; exact ⟨V, h2, rfl⟩⟩⟩
    | some x =>
      obtain ⟨V, hV, rfl⟩ := hm
      simp only [evLv, T.pick, Option.some.injEq] at h
      exact hQ _ _ ⟨ρ, Out.refl _ _, by rw [← h]; exact hR, by rw [← h]; exact ⟨V, hV, rfl⟩⟩
  | cons hL hb ht =>
    rename_i g args L1 L2 df ds
    have hrun : u ≠ .run := by
      cases m with
      | none => have hu : u = .returning := hm; rw [hu]; simp
      | some x => obtain ⟨V, _, rfl⟩ := hm; simp
    simp only [evLv] at h
    cases hfn : c.P.funcs[g]? with
    | none => simp [hfn, T.pick] at h
    | some gn =>
      simp only [hfn] at h
      split at h
      case h_2 => simp [T.pick] at h
      rename_i code hbody hres
      have hres' : gn.results = #[] := by apply Array.ext'; simpa using hres
      have hinv : (invoke (.fn (.func g) L2.toArray) L1.toArray).run c.P w = .ok (.enter g (L1 ++ L2).toArray) w := by
        simp only [invoke]
        rw [funcs_call hP.names hb]
        congr 2
        apply Array.ext'
        simp
      refine ⟨hrun, .func g, L2.toArray, g, (L1 ++ L2).toArray, rfl, hinv, ?_⟩
      have hentry := entry_ok hL gn.ntmps
      -- what follows when the body has been done
      have after : ∀ {l1 : CL} {m' : Option SV} {p' : Path} {u' : FrameMode}, PathOk v p' → (l1.x = .normal ∨ l1.x = .ret) → l1.df = [] → (evLv c n fn.results.toList fr l1.s p' df m').pick v = some l → (∀ ρ', (∃ w', Out ρ w ρ' w') → MOk ρ' v m' (settle u')) →
          CPost c v ρ w l1 (bodyPost c.P gn (fun e w' => (∃ V, e = .returned V) ∧ Leaves c.P fn tmps R ds (settle u') w')) := by
        intro l1 m' p' u' hp' hx hdf hl hmo e a' ρ' w' hxe ho hr hf' hd'
        rw [hdf] at hd'
        have hde := hd'.empty
        have hleaf : Leaves c.P fn tmps R ds (settle u') w' := ih.V (hf.mono ho) (ht.mono ho) hr hp' (hmo ρ' ⟨w', ho⟩) hl (fun e w'' hq => hQ e w'' (hq.trans ho))
        have : e = .normal ∨ e = .ret := by
          rcases hx with hx | hx
          · rw [hx] at hxe; exact .inl hxe
          · rw [hx] at hxe; exact .inr hxe
        rcases this with rfl | rfl
        · exact ⟨hde, _, results_none hres' _ _ _, ⟨_, rfl⟩, hleaf⟩
        · exact ⟨hde, _, results_none hres' _ _ _, ⟨_, rfl⟩, hleaf⟩
      split at h
      · -- it recovers
        rename_i dst rest hrb
        obtain ⟨l1, p', h1, hp', h2⟩ := pick_bnd hp h
        have hend : (l1.x = .normal ∨ l1.x = .ret) ∧ l1.df = [] ∧ (evLv c n fn.results.toList fr l1.s p' df none).pick v = some l := by
          split at h2
          · rename_i hx hdf; exact ⟨.inl hx, hdf, h2⟩
          · rename_i hx hdf; exact ⟨.inr hx, hdf, h2⟩
          · simp [T.pick] at h2
        cases m with
        | none =>
          have hu : u = .returning := hm
          subst hu
          refine (callsD_rec (u' := .returning) (V := .nilIface) (R := fun e w' => (∃ V, e = .returned V) ∧ Leaves c.P fn tmps R ds (settle .returning) w') hfn hbody hrb (fun c₀ cs hc => by simp [recoverD, hc]) ?_).mono ?_
          · exact ih.C (hentry.put (a := ⟨(L1 ++ L2).toArray ++ Array.replicate (gn.ntmps - (L1 ++ L2).toArray.size) undef, []⟩) (x := .nilIface) (V := .nilIface) rfl dst) (by rw [put_defers]; exact .nil) hR hp h1
              (after hp' hend.1 hend.2.1 hend.2.2 (fun _ _ => rfl))
          · rintro e u'' w' ⟨rfl, ⟨V, rfl⟩, hq⟩
            exact hq
        | some x =>
          obtain ⟨V, hV, rfl⟩ := hm
          refine (callsD_rec (u' := .panicking [{ v := V, recovered := true }]) (V := V) (R := fun e w' => (∃ V, e = .returned V) ∧ Leaves c.P fn tmps R ds (settle (.panicking [{ v := V, recovered := true }])) w') hfn hbody hrb (fun c₀ cs hc => by simp [recoverD, hc]) ?_).mono ?_
          · exact ih.C (hentry.put (a := ⟨(L1 ++ L2).toArray ++ Array.replicate (gn.ntmps - (L1 ++ L2).toArray.size) undef, []⟩) hV dst) (by rw [put_defers]; exact .nil) hR hp h1
              (after hp' hend.1 hend.2.1 hend.2.2 (fun _ _ => rfl))
          · rintro e u'' w' ⟨rfl, ⟨V, rfl⟩, hq⟩
            exact hq
      · rename_i hrb
        obtain ⟨l1, p', h1, hp', h2⟩ := pick_bnd hp h
        have hend : (l1.x = .normal ∨ l1.x = .ret) ∧ l1.df = [] ∧ (evLv c n fn.results.toList fr l1.s p' df m).pick v = some l := by
          split at h2
          · rename_i hx hdf; exact ⟨.inl hx, hdf, h2⟩
          · rename_i hx hdf; exact ⟨.inr hx, hdf, h2⟩
          · simp [T.pick] at h2
        refine (callsD_of_wp (R := fun e w' => (∃ V, e = .returned V) ∧ Leaves c.P fn tmps R ds (settle u) w') hfn hbody ?_).mono ?_
        · refine ih.C hentry .nil hR hp h1 (after hp' hend.1 hend.2.1 hend.2.2 (fun ρ' hρ => ?_))
          obtain ⟨w', ho⟩ := hρ
          cases m with
          | none => have hu : u = .returning := hm; subst hu; rfl
          | some x => obtain ⟨V, hV, rfl⟩ := hm; exact ⟨V, ho.den hV, rfl⟩
        · rintro e u'' w' ⟨rfl, ⟨V, rfl⟩, hq⟩
          exact hq

theorem right_F {n : Nat} (hT : TabOk c v) (ih : Right c v n) {f : FuncId} {args : List SV} {s : St} {p : Path} {L : List Value} {ρ : Rho} {w : World} {l : FL} (hL : SV.denL ρ v args = some L) (hR : Rep c ρ v s w) (hp : PathOk v p)
    (h : (evF c (n + 1) f args s p).pick v = some l) : Calls c.P f L.toArray w (FPost c v ρ w l) := by
  rw [evF] at h
  cases htab : c.tab f args s with
  | some x =>
    simp only [htab, T.pick, Option.some.injEq] at h
    subst h
    refine (hT f args s x htab ρ w L hR hL).mono ?_
    rintro e w' ⟨V, rfl, hx, hk, hr⟩
    exact ⟨ρ, ⟨⟨[], by simp, by simp⟩, hk⟩, hr, V, hx, rfl⟩
  | none =>
    simp only [htab] at h
    cases hfn : c.P.funcs[f]? with
    | none => simp [hfn, T.pick] at h
    | some fn =>
      simp only [hfn] at h
      cases hb : fn.body with
      | none => simp [hb, T.pick] at h
      | some code =>
        simp only [hb] at h
        obtain ⟨l', h1, h2⟩ := mergeT_ok h
        have main : Calls c.P f L.toArray w (FPost c v ρ w l') := by
          obtain ⟨l1, p', h3, hp', h4⟩ := pick_bnd hp h1
          refine calls_of_wp_defers hfn hb ?_
          refine ih.C (p := p) (entry_ok hL fn.ntmps) .nil hR hp h3 ?_
          intro e a' ρ' w' hx ho hr hf' hd'
          have fin : ∀ {m : Option SV} {u : FrameMode}, MOk ρ' v m u → ((evLv c n fn.results.toList l1.fr l1.s p' l1.df m).bnd p' fun l _ => .leaf (forget s.length l)).pick v = some l' → Leaves c.P fn a'.tmps (FPost c v ρ w l') a'.defers u w' := by
            intro m u hmo hl
            obtain ⟨l2, p'', h5, hp'', h6⟩ := pick_bnd hp' hl
            simp only [T.pick, Option.some.injEq] at h6
            subst h6
            exact ih.V hf' hd' hr hp' hmo h5 (fun e w'' hq => forget_ok hR (hq.trans ho))
          cases hlx : l1.x with
          | normal =>
            rw [hlx] at hx h4
            have : e = .normal := hx
            subst this
            exact fin (m := none) rfl h4
          | ret =>
            rw [hlx] at hx h4
            have : e = .ret := hx
            subst this
            exact fin (m := none) rfl h4
          | exit id => rw [hlx] at h4; simp [T.pick] at h4
          | pan x =>
            rw [hlx] at hx h4
            obtain ⟨V, hV, rfl⟩ := hx
            exact fin (m := some x) ⟨V, hV, rfl⟩ h4
        rcases h2 with rfl | ⟨h3, h4, x, y, h5, h6, h7⟩
        · exact main
        · refine main.mono ?_
          rintro e w' ⟨ρ', ho, hr, he⟩
          rw [h5] at he
          obtain ⟨V, hV, rfl⟩ := he
          refine ⟨ρ', ho, by rw [h4, ← h3]; exact hr, ?_⟩
          rw [h6]
          exact ⟨V, by rw [h7]; exact hV, rfl⟩

theorem right (hP : Fit c.P) (hT : TabOk c v) : ∀ n, Right c v n
  | 0 => right_zero
  | n + 1 => by
    have ih := right hP hT n
    exact ⟨fun h1 h2 h3 h4 h5 h6 => right_C hP ih h1 h2 h3 h4 h5 h6, fun h1 h2 h3 h4 h5 h6 => right_L ih h1 h2 h3 h4 h5 h6, fun h1 h2 h3 h4 h5 h6 => right_O hP ih h1 h2 h3 h4 h5 h6,
      fun h1 h2 h3 h4 => right_H hP ih h1 h2 h3 h4, fun h1 h2 h3 h4 => right_F hT ih h1 h2 h3 h4, fun h1 h2 h3 h4 h5 h6 h7 => right_V hP ih h1 h2 h3 h4 h5 h6 h7⟩
/-- THE LAW OF A CALL. -/
theorem evF_ok (hP : Fit c.P) (hT : TabOk c v) {n : Nat} {f : FuncId} {args : List SV} {s : St} {p : Path} {L : List Value} {ρ : Rho} {w : World} {l : FL} (hL : SV.denL ρ v args = some L) (hR : Rep c ρ v s w) (hp : PathOk v p)
    (h : (evF c n f args s p).pick v = some l) : Calls c.P f L.toArray w (FPost c v ρ w l) := (right hP hT n).F hL hR hp h
end
end Go.Proofs.YtancmkdmlghlpaaGreatDoor.Ev
