/- The reckoner is right. No statement is proved here. -/
import Derived.Test.YtancmkdmlghlpaaGreatDoorEvE
import Derived.Test.YtancmkdmlghlpaaGreatDoorEvH
import Derived.Recover
namespace Go.Proofs.YtancmkdmlghlpaaGreatDoor.Ev
open Go
def XOk (ρ : Rho) (v : Env) : X → Exit → Prop
  | .normal, e => e = .normal
  | .exit id, e => e = .exit id
  | .ret, e => e = .ret
  | .pan x, e => ∃ V, x.den ρ v = some V ∧ e = .panic [{ v := V, recovered := false }]
def EOk (ρ : Rho) (v : Env) : FE → Ending → Prop
  | .ret x, e => ∃ V, x.den ρ v = some V ∧ e = .returned V
  | .pan x, e => ∃ V, x.den ρ v = some V ∧ e = .panicked [{ v := V, recovered := false }]
/-- What is known at the end of a call. -/
def FPost (c : Cx) (v : Env) (ρ : Rho) (w : World) (l : FL) (e : Ending) (w' : World) : Prop := ∃ ρ', Out ρ w ρ' w' ∧ Rep c ρ' v l.s w' ∧ EOk ρ' v l.e e
section
variable {c : Cx} {v : Env}
theorem FrOk.mono {ρ ρ' : Rho} {w w' : World} {fr : List SV} {tmps : Array Value} (h : FrOk ρ v fr tmps) (ho : Out ρ w ρ' w') : FrOk ρ' v fr tmps :=
  ⟨h.len, fun i x hi => (h.get i x hi).imp id fun ⟨V, h1, h2⟩ => ⟨V, h1, ho.den h2⟩⟩
theorem FrOk.put {ρ : Rho} {fr : List SV} {a : Act} (h : FrOk ρ v fr a.tmps) {x : SV} {V : Value} (hx : x.den ρ v = some V) (dst : Option Tmp) : FrOk ρ v (putF fr dst x) (a.put dst V).tmps := by
  cases dst with
  | none => exact h
  | some d =>
    refine ⟨by simp [putF, Act.put, h.len], fun i y hi => ?_⟩
    simp only [putF] at hi
    simp only [Act.put, Array.getElem?_setIfInBounds]
    by_cases hd : d = i
    · subst hd
      rw [List.getElem?_set] at hi
      simp only [if_true] at hi
      split at hi
      · rename_i hl
        simp at hi
        subst hi
        rw [if_pos rfl, if_pos (by rw [← h.len]; exact hl)]
        exact .inr ⟨V, rfl, hx⟩
      · simp at hi
    · rw [List.getElem?_set_ne hd] at hi
      rw [if_neg hd]
      exact h.get i y hi
theorem den_undef {ρ : Rho} : SV.undef.den ρ v = some undef := by simp [SV.den, SV.denL, Go.undef]
theorem put_defers (a : Act) (d : Option Tmp) (V : Value) : (a.put d V).defers = a.defers := by cases d <;> rfl
theorem mergeT_ok {s0 : St} : ∀ {t : T FL} {l : FL}, (mergeT s0 t).pick v = some l →
    ∃ l', t.pick v = some l' ∧ (l' = l ∨ (l'.s = s0 ∧ l.s = s0 ∧ ∃ x y, l'.e = .ret x ∧ l.e = .ret y ∧ ∀ ρ, y.den ρ v = x.den ρ v))
  | .leaf a, l, h => ⟨a, rfl, by simp [mergeT, T.pick] at h; exact .inl h⟩
  | .fail _, l, h => by simp [mergeT, T.pick] at h
  | .ite d t e, l, h => by
    have plain : ∀ {A B : T FL}, mergeT s0 t = A → mergeT s0 e = B → (T.ite d A B).pick v = some l → ∃ l', (T.ite d t e).pick v = some l' ∧ (l' = l ∨ (l'.s = s0 ∧ l.s = s0 ∧ ∃ x y, l'.e = .ret x ∧ l.e = .ret y ∧ ∀ ρ, y.den ρ v = x.den ρ v)) := by
      intro A B hA hB hq
      simp only [T.pick] at hq ⊢
      cases hd : d.b v
      · simp only [hd, cond_false] at hq ⊢
        rw [← hB] at hq; exact mergeT_ok hq
      · simp only [hd, cond_true] at hq ⊢
        rw [← hA] at hq; exact mergeT_ok hq
    rw [mergeT] at h
    split at h
    · rename_i x s y s' hx hy
      cases hs : (stEqb s s0 && stEqb s' s0)
      · simp only [hs, cond_false] at h; exact plain hx hy h
      · simp only [hs, cond_true] at h
        simp only [Bool.and_eq_true] at hs
        have e1 := stEqb_eq hs.1
        have e2 := stEqb_eq hs.2
        subst e1
        split at h
        · rename_i z hz
          simp only [T.pick, Option.some.injEq] at h
          subst h
          rw [show (T.ite d t e).pick v = bif d.b v then t.pick v else e.pick v from rfl]
          cases hd : d.b v
          · rw [cond_false]
            obtain ⟨l', h1, h2⟩ := mergeT_ok (t := e) (l := ⟨.ret y, s'⟩) (by rw [hy]; rfl)
            refine ⟨l', h1, .inr ?_⟩
            rcases h2 with rfl | ⟨h3, h4, x', y', h5, h6, h7⟩
            · exact ⟨e2, rfl, y, z, rfl, rfl, fun ρ => by rw [mergeSV_ok hz, hd]; rfl⟩
            · refine ⟨h3, rfl, x', z, h5, rfl, fun ρ => ?_⟩
              simp at h6; subst h6
              rw [mergeSV_ok hz, hd, cond_false]; exact h7 ρ
          · rw [cond_true]
            obtain ⟨l', h1, h2⟩ := mergeT_ok (t := t) (l := ⟨.ret x, s⟩) (by rw [hx]; rfl)
            refine ⟨l', h1, .inr ?_⟩
            rcases h2 with rfl | ⟨h3, h4, x', y', h5, h6, h7⟩
            · exact ⟨rfl, rfl, x, z, rfl, rfl, fun ρ => by rw [mergeSV_ok hz, hd]; rfl⟩
            · refine ⟨h3, rfl, x', z, h5, rfl, fun ρ => ?_⟩
              simp at h6; subst h6
              rw [mergeSV_ok hz, hd, cond_true]; exact h7 ρ
        · exact plain hx hy h
    · exact plain rfl rfl h
theorem FE_sc {ρ ns : Rho} {x : FE} {e : Ending} (hs : x.sc ρ.length = true) (h : EOk (ρ ++ ns) v x e) : EOk ρ v x e := by
  cases x with
  | ret x => obtain ⟨V, h1, h2⟩ := h; exact ⟨V, by rw [← SV.den_sc hs]; exact h1, h2⟩
  | pan x => obtain ⟨V, h1, h2⟩ := h; exact ⟨V, by rw [← SV.den_sc hs]; exact h1, h2⟩
theorem Rep.less {ρ ns : Rho} {s s' : St} {w w' : World} (h0 : Rep c ρ v s w) (h : Rep c (ρ ++ ns) v s' w') (hs : (s'.take ρ.length).all (Blk.sc ρ.length) = true) : Rep c ρ v (s'.take ρ.length) w' := by
  refine ⟨?_, h0.nd, h0.gl, fun i b hb => ?_⟩
  · have := h.len
    simp at this ⊢; omega
  · rw [List.getElem?_take] at hb
    split at hb
    · rename_i hi
      obtain ⟨n, o, h1, h2, h3⟩ := h.blk i b hb
      rw [List.getElem?_append_left hi] at h1
      refine ⟨n, o, h1, h2, Blk.holds_sc ?_ h3⟩
      exact List.all_eq_true.1 hs b (List.mem_of_getElem? (by rw [List.getElem?_take, if_pos hi]; exact hb))
    · simp at hb
theorem forget_ok {ρ : Rho} {s : St} {w : World} (hR : Rep c ρ v s w) {l : FL} {e : Ending} {w' : World} (h : FPost c v ρ w l e w') : FPost c v ρ w (forget s.length l) e w' := by
  unfold forget
  cases hc : (l.e.sc s.length && (l.s.take s.length).all (Blk.sc s.length))
  · simp only [cond_false]; exact h
  · simp only [cond_true]
    simp only [Bool.and_eq_true] at hc
    obtain ⟨ρ', ho, hR', he⟩ := h
    have ho' := ho
    obtain ⟨⟨ns, rfl, _⟩, _⟩ := ho'
    rw [hR.len] at hc ⊢
    exact ⟨ρ, ho.less, hR.less hR' hc.2, FE_sc hc.1 he⟩
def resF (tmps : Array Value) : ResultVar → Sem Value
  | .tmp t => pure (tmps.getD t undef)
  | .cell a t => do loadVar t (← asAddr (tmps.getD a undef))
theorem results_eq (fn : Func) (tmps : Array Value) : results fn tmps = (do let vs ← fn.results.mapM (resF tmps); pure (if h : vs.size = 1 then vs[0] else .tuple vs)) := by
  unfold results
  congr 1
theorem resOne_ok {ρ : Rho} {s : St} {w : World} {fr : List SV} {tmps : Array Value} {p : Path} (hf : FrOk ρ v fr tmps) (hR : Rep c ρ v s w) (hp : PathOk v p) {r : ResultVar} {x : SV} (h : resOne c fr s p r = some x) :
    ∃ V, (resF tmps r).run c.P w = .ok V w ∧ x.den ρ v = some V := by
  have hget : ∀ {t : Nat} {z : SV}, fr[t]? = some z → z ≠ .any → z.den ρ v = some (tmps.getD t undef) := by
    intro t z hz hne
    rcases hf.get t z hz with h1 | ⟨V, h1, h2⟩
    · exact absurd h1 hne
    · rw [Array.getD_eq_getD_getElem?, h1]; exact h2
  cases r with
  | tmp t =>
    simp only [resOne, Option.bind_eq_some_iff] at h
    obtain ⟨z, hz, h⟩ := h
    split at h
    · simp at h
    · rename_i hne
      simp at h
      subst h
      exact ⟨_, rfl, hget hz hne⟩
  | cell a t =>
    simp only [resOne] at h
    split at h
    · rename_i n o hz
      split at h
      · rename_i y s' hl
        simp at h
        subst h
        have hA := hget hz (by simp)
        obtain ⟨z, V, h1, h2, h3⟩ := load_core (r := .val y s') hR hp hA (by rw [hl]; rfl)
        simp at h1
        obtain ⟨rfl, rfl⟩ := h1
        refine ⟨V, ?_, h3⟩
        simp only [SV.den, Option.map_eq_some_iff] at hA
        obtain ⟨b, _, hA⟩ := hA
        rw [← hA] at h2
        simp only [resF, ← hA]
        simpa [Instr.loadAt, Instr.sureAddr, asAddr] using h2
      · simp at h
    · simp at h
theorem resL_ok {ρ : Rho} {s : St} {w : World} {fr : List SV} {tmps : Array Value} {p : Path} (hf : FrOk ρ v fr tmps) (hR : Rep c ρ v s w) (hp : PathOk v p) : ∀ {rs : List ResultVar} {l : List SV}, resL c fr s p rs = some l →
    ∃ L, (rs.mapM (resF tmps)).run c.P w = .ok L w ∧ SV.denL ρ v l = some L
  | [], l, h => by simp [resL] at h; subst h; exact ⟨[], by simp, rfl⟩
  | r :: rs, l, h => by
    simp only [resL, Option.bind_eq_some_iff, Option.map_eq_some_iff] at h
    obtain ⟨x, hx, l, hl, rfl⟩ := h
    obtain ⟨V, h1, h2⟩ := resOne_ok hf hR hp hx
    obtain ⟨L, h3, h4⟩ := resL_ok hf hR hp hl
    refine ⟨V :: L, ?_, by simp [SV.denL, h2, h4]⟩
    rw [List.mapM_cons]
    simp only [Sem.run_bind, h1, h3, Result.andThen_ok, Sem.run_pure]
theorem resAll_ok {ρ : Rho} {s : St} {w : World} {fr : List SV} {tmps : Array Value} {p : Path} (hf : FrOk ρ v fr tmps) (hR : Rep c ρ v s w) (hp : PathOk v p) {fn : Func} {x : SV} (h : resAll c fr s p fn.results.toList = some x) :
    ∃ V, (results fn tmps).run c.P w = .ok V w ∧ x.den ρ v = some V := by
  unfold resAll at h
  have key : ∀ {l : List SV}, resL c fr s p fn.results.toList = some l → ∃ L, SV.denL ρ v l = some L ∧ (results fn tmps).run c.P w = .ok (if h : L.toArray.size = 1 then L.toArray[0] else .tuple L.toArray) w := by
    intro l hl
    obtain ⟨L, h1, h2⟩ := resL_ok hf hR hp hl
    refine ⟨L, h2, ?_⟩
    rw [results_eq, Array.mapM_eq_mapM_toList]
    simp only [Sem.run_bind, Sem.run_map, h1, Result.andThen_ok, Sem.run_pure]
  split at h
  · rename_i y hl
    simp at h
    subst h
    obtain ⟨L, h1, h2⟩ := key hl
    simp only [SV.denL, Option.bind_eq_some_iff, Option.map_eq_some_iff, Option.some.injEq] at h1
    obtain ⟨V, hV, _, rfl, rfl⟩ := h1
    exact ⟨V, h2, hV⟩
  · rename_i l hne hl
    simp at h
    subst h
    obtain ⟨L, h1, h2⟩ := key hl
    refine ⟨_, h2, ?_⟩
    have hlen := denL_length h1
    have : ¬ L.toArray.size = 1 := by
      intro hs
      have : l.length = 1 := by simp at hs; omega
      obtain ⟨y, rfl⟩ := List.length_eq_one_iff.1 this
      exact hne y rfl
    simp only [this, dif_neg, not_false_eq_true]
    simp [SV.den, h1]
  · simp at h
/-- The contracts of the table are right. -/
def TabOk (c : Cx) (v : Env) : Prop := ∀ (f : FuncId) (args : List SV) (s : St) (x : SV), c.tab f args s = some x → ∀ (ρ : Rho) (w : World) (L : List Value), Rep c ρ v s w → SV.denL ρ v args = some L →
  Calls c.P f L.toArray w (fun e w' => ∃ V, e = .returned V ∧ x.den ρ v = some V ∧ Keeps ρ w w' ∧ Rep c ρ v s w')
/-- Calls that are put off. -/
inductive DfOk (c : Cx) (ρ : Rho) (v : Env) : Df → List Deferred → Prop where
  | nil : DfOk c ρ v [] []
  | cons {g : FuncId} {args : List SV} {L1 L2 : List Value} {df : Df} {ds : List Deferred} (h : SV.denL ρ v args = some (L1 ++ L2)) (hb : ((c.P.funcs[g]?).map (·.body.isSome)).getD false = true) (t : DfOk c ρ v df ds) :
      DfOk c ρ v ((g, args) :: df) (⟨.fn (.func g) L2.toArray, L1.toArray⟩ :: ds)
theorem DfOk.mono {ρ ρ' : Rho} {w w' : World} (ho : Out ρ w ρ' w') {df : Df} {ds : List Deferred} (h : DfOk c ρ v df ds) : DfOk c ρ' v df ds := by
  obtain ⟨⟨ns, rfl, _⟩, _⟩ := ho
  induction h with
  | nil => exact .nil
  | cons h hb t ih => exact .cons (SV.denL_ext h) hb ih
theorem DfOk.empty {ρ : Rho} {ds : List Deferred} (h : DfOk c ρ v [] ds) : ds = [] := by cases h; rfl
theorem recBody_spec {code rest : Code} {dst : Option Tmp} (h : recBody code = some (dst, rest)) :
    ∃ id ts ty pos after, code = .seq (.region id #[⟨dst, .call ⟨.builtin .recover, #[], ts⟩, ty, pos, after, none⟩] false) rest := by
  unfold recBody at h
  split at h
  · simp only [Option.some.injEq, Prod.mk.injEq] at h
    obtain ⟨rfl, rfl⟩ := h
    exact ⟨_, _, _, _, _, rfl⟩
  · simp at h
theorem callsD_rec {P : Program} {f : FuncId} {fn : Func} {code rest : Code} {dst : Option Tmp} {args : Array Value} {u u' : FrameMode} {w : World} {R : Ending → World → Prop} {V : Value} (hf : P.funcs[f]? = some fn) (hb : fn.body = some code) (hc : recBody code = some (dst, rest))
    (hrec : ∀ (c₀ : Frame) (cs : List Frame), c₀.mode = u → (match recoverD (c₀ :: cs) with | some (y, cs') => y = V ∧ cs' = { c₀ with mode := u' } :: cs | none => V = .nilIface ∧ u' = u))
    (h : rest.wp P (bodyPost P fn R) ((⟨args ++ Array.replicate (fn.ntmps - args.size) undef, []⟩ : Act).put dst V) w) : CallsD P f args u w (fun e u'' w' => u'' = u' ∧ R e w') := by
  obtain ⟨id, ts, ty, pos, after, rfl⟩ := recBody_spec hc
  refine callsD_of_wpS hf hb (fun c₀ cs hu => ?_)
  refine wpS_seq (wpS_region ?_)
  have hrun : ∀ a : Act, (execOp a.eval ⟨dst, .call ⟨.builtin .recover, #[], ts⟩, ty, pos, after, none⟩).run P w = .ok .recover w := by
    intro a
    unfold execOp
    simp [resolve, invoke, builtin]
  have hr := hrec c₀ cs hu
  have fin : ∀ cs', cs' = { c₀ with mode := u' } :: cs → rest.wpS P (bodyPostS P fn c₀ cs (fun e u'' w' => u'' = u' ∧ R e w')) ((⟨args ++ Array.replicate (fn.ntmps - args.size) undef, []⟩ : Act).put dst V) cs' w := by
    intro cs' hcs
    subst hcs
    refine wpS_of_wp (wp_mono h ?_)
    intro e a' w' hq
    cases e with
    | normal => obtain ⟨h1, y, h2, h3⟩ := hq; exact ⟨h1, u', rfl, y, h2, rfl, h3⟩
    | ret => obtain ⟨h1, y, h2, h3⟩ := hq; exact ⟨h1, u', rfl, y, h2, rfl, h3⟩
    | panic ch => obtain ⟨h1, h2⟩ := hq; exact ⟨h1, u', rfl, rfl, h2⟩
    | exit id => exact hq
    | goto l => exact hq
    | outgrown => exact ⟨u', rfl, hq⟩
  show wpOpsS P _ _ [0] _ _ _
  simp only [wpOpsS, List.getElem?_toArray, List.getElem?_cons_zero, Region.wanted, if_true, hrun]
  cases hrd : recoverD (c₀ :: cs) with
  | none =>
    rw [hrd] at hr
    obtain ⟨rfl, rfl⟩ := hr
    have hc0 : c₀ :: cs = { c₀ with mode := u' } :: cs := by subst hu; rfl
    exact fin _ hc0
  | some q =>
    obtain ⟨y, cs'⟩ := q
    rw [hrd] at hr
    obtain ⟨rfl, rfl⟩ := hr
    exact fin _ rfl
end
end Go.Proofs.YtancmkdmlghlpaaGreatDoor.Ev
