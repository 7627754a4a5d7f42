/- From a row's claim to a law's run: the package's variables, the world's shape, the end. No statement is proved here. -/
import Derived.Test.YtancmkdmlghlpaaGreatDoorEv0
import Derived.Test.YtancmkdmlghlpaaGreatDoorCards
import Derived.Test.YtancmkdmlghlpaaGreatDoorTie
import Derived.SevenTiedAt
namespace Go.Proofs.YtancmkdmlghlpaaGreatDoor
open Go Go.RowKit Ev Go.ChangeShapes Go.WideShapes Go.ChangeAt
theorem own : ownKnob Tryz.prog.godebug = none := by kernel_rfl
theorem laidOut : laidOutB Tryz.prog = true := by kernel_rfl
def laid : List (String × DataW Unit) := [("dioptra/trap.order", Rows.laid_dioptra_trap_order), ("dioptra/hart.uneven", Rows.laid_dioptra_hart_uneven), ("dioptra/hart.faults", Rows.laid_dioptra_hart_faults)]
theorem c22 : Tryz.prog.cellsOf (/-T-/ 22) = 1 := by kernel_rfl
theorem ints_of {W : World} {sp : Nat → Bool} {held : Bool} {fuel : Nat} {t : TypeId} {n : Nat} {l : List Value} {p : List MemPlace} {zs : List Int} {enc : TypeId × Value → Unit} (ht : Tryz.prog.underlying t = some (.array n (/-T-/ 22))) (hn : n = zs.length)
    (h : DataW.trod enc Tryz.prog W 0 sp held fuel t l = some (.agg (zs.map fun z => .lit (.int .u32 z)), p)) (hc : Tryz.prog.cellsOf t = n) : l = zs.map (.int .u32) := by
  obtain ⟨xs, m, _, ex, hlen, hl, hel⟩ := DataW.trod_array ht h
  have e3 := DataW.agg.inj (Prod.mk.inj ex).1
  rw [hc] at hlen
  apply List.ext_getElem?
  intro i
  by_cases hi : i < n
  · have k := hel i hi
    rw [c22] at k
    have hx : i < xs.length := by omega
    rw [List.getElem?_eq_getElem hx] at k
    obtain ⟨z, a, b, _⟩ := DataW.trod_int Tryz.underlying22 k
    have e4 : (zs.map fun z => (DataW.lit (.int .u32 z) : DataW Unit))[i]? = (xs.map (·.1))[i]? := by rw [e3]
    rw [List.getElem?_map, List.getElem?_map, List.getElem?_eq_getElem hx, List.getElem?_eq_getElem (by omega : i < zs.length)] at e4
    simp only [Option.map_some, Option.some.injEq] at e4
    rw [b] at e4
    have hz : zs[i] = z := by
      have := (DataW.lit.inj e4)
      exact (Lit.int.inj this).2
    have hli : i < l.length := by omega
    rw [List.getElem?_map, List.getElem?_eq_getElem (by omega : i < zs.length), List.getElem?_eq_getElem hli, Option.map_some, hz]
    have : (l.drop (i * 1)).take 1 = [l[i]] := by
      rw [Nat.mul_one, List.drop_eq_getElem_cons hli]; rfl
    rw [this] at a
    exact congrArg some (List.cons.inj a).1
  · rw [List.getElem?_eq_none (by omega), List.getElem?_eq_none (by simp; omega)]
theorem u85 : Tryz.prog.underlying (/-T-/ 85) = some (.array 6 (/-T-/ 22)) := by kernel_rfl
theorem u116 : Tryz.prog.underlying (/-T-/ 116) = some (.array 3 (/-T-/ 22)) := by kernel_rfl
theorem row_of_var {W : World} {n : String} {g : Nat} {t : TypeId} {cs : Array Value} {z : Array Value} (hsh : W.ShapedOpen Tryz.prog) (hg : Tryz.prog.globalNamed n = some g) (hlt : g < Tryz.prog.globals.size)
    (hz : ((begin Tryz.prog (fun _ _ => 0) default).world.heap[g]?).bind Obj.row? = some (z, t)) (hv : W.var? Tryz.prog n = some cs) : W.heap[g]? = some (.cells cs t) := by
  obtain ⟨c, hc, _, _⟩ := hsh.1 g z t hlt hz
  unfold World.var? at hv
  rw [hg] at hv
  simp only [Option.bind_some, hc, Option.some.injEq] at hv
  subst hv
  exact hc
theorem gl_of {W : World} (hsh : W.ShapedOpen Tryz.prog) (h : laidMetH Tryz.prog laid W) : Gl W := by
  rw [MakeChecks.laidMetH_plain _ _ _ (by kernel_rfl)] at h
  obtain ⟨ps, ⟨g, t, cs, fuel, p, q, hg, ht, hv, hd, ⟨g2, t2, cs2, fuel2, p2, q2, hg2, ht2, hv2, hd2, ⟨g3, t3, cs3, fuel3, p3, q3, hg3, ht3, hv3, hd3, _, _⟩, _⟩, _⟩, _, _⟩ := h
  obtain rfl := Option.some.inj ((show Tryz.prog.globalNamed "dioptra/trap.order" = some 0 by kernel_rfl).symm.trans hg)
  obtain rfl := Option.some.inj ((show Tryz.prog.globalNamed "dioptra/hart.uneven" = some 2 by kernel_rfl).symm.trans hg2)
  obtain rfl := Option.some.inj ((show Tryz.prog.globalNamed "dioptra/hart.faults" = some 1 by kernel_rfl).symm.trans hg3)
  obtain rfl := Option.some.inj ((show (Tryz.prog.globals[0]?).map (·.type) = some (/-T-/ 85) by kernel_rfl).symm.trans ht)
  obtain rfl := Option.some.inj ((show (Tryz.prog.globals[2]?).map (·.type) = some (/-T-/ 116) by kernel_rfl).symm.trans ht2)
  obtain rfl := Option.some.inj ((show (Tryz.prog.globals[1]?).map (·.type) = some (/-T-/ 116) by kernel_rfl).symm.trans ht3)
  have e1 := ints_of (zs := [11, 3, 7, 9, 1, 5]) u85 rfl hd (by kernel_rfl)
  have e2 := ints_of (zs := [0, 4, 6]) u116 rfl hd2 (by kernel_rfl)
  have e3 := ints_of (zs := [1, 5, 7]) u116 rfl hd3 (by kernel_rfl)
  have r1 := row_of_var (z := #[.int .u32 0, .int .u32 0, .int .u32 0, .int .u32 0, .int .u32 0, .int .u32 0]) (t := (/-T-/ 85)) hsh hg (of_decide_eq_true (by kernel_rfl)) (by kernel_rfl) hv
  have r2 := row_of_var (z := #[.int .u32 0, .int .u32 0, .int .u32 0]) (t := (/-T-/ 116)) hsh hg2 (of_decide_eq_true (by kernel_rfl)) (by kernel_rfl) hv2
  have r3 := row_of_var (z := #[.int .u32 0, .int .u32 0, .int .u32 0]) (t := (/-T-/ 116)) hsh hg3 (of_decide_eq_true (by kernel_rfl)) (by kernel_rfl) hv3
  refine ⟨?_, ?_, ?_⟩
  · rw [r1]; congr 2; exact Array.ext' e1
  · rw [r3]; congr 2; exact Array.ext' e3
  · rw [r2]; congr 2; exact Array.ext' e2
theorem wrap {H : Type} {enc : TypeId × Value → H} {a : Assume} {C : Checked} {os : Os} {f : FuncId} {fn : Func} {s : ChangeSpec} {conds : List PathCond} {apart fresh handsOn again : Bool} {X : World → Array Value → Prop}
    (hX : ∀ (w w' : World) (args : Array Value), w.heap = w'.heap → X w args → X w' args)
    (own : ownKnob C.prog.godebug = none) (started : os.Started) (noInit : C.prog.inits.idxOf? f = none) (hfn : C.prog.funcs[f]? = some fn)
    (witness : ∃ (w : World) (tape : Tape) (i : Input), w.os = os ∧ (w.forCall tape i).Shaped C.prog ∧ i.vars = [] ∧ Input.okWide C.prog (w.forCall tape i) .any w.heap.size f i ∧
      ((s.pre enc C.prog fn conds apart (w.forCall tape i).memory i.args ∧ X (w.forCall tape i).memory i.args) ∧ sizedMet enc C.prog fn (OpenSpec.ofChange s) apart (w.forCall tape i).memory i.args) ∧ a.holds C.prog (lone (Frame.enter C.prog f i.args .normal) [] (w.forCall tape i)))
    (contract : ∀ (W : World) (base : Nat) (args : Array Value) (ds gs : List (DataW H)) (before : List MemPlace),
      (∀ (j : Nat) t v, fn.params[j]? = some t → args[j]? = some v → Value.okWide C.prog W .any base t v) →
      DataW.Whole enc C.prog fn.params.toList s.vars apart W args.toList ds gs before →
      (DataW.weightsEach C.prog (fn.params.toList ++ s.plain.varTypes C.prog) (ds ++ gs)).all (· ≤ reachBytes) = true → X W args → W.ShapedOpen C.prog →
      Calls C.prog f args W fun e W' => ∃ v, e = .returned v ∧ s.post enc C.prog fn apart fresh handsOn again W args v W') :
    ReturnsInHanded a C os f .any (fun w args => (s.pre enc C.prog fn conds apart w args ∧ X w args) ∧ sizedMet enc C.prog fn (OpenSpec.ofChange s) apart w args) (s.post enc C.prog fn apart fresh handsOn again) := by
  refine returnsInHanded_of_calls own started noInit witness ?_
  intro w tape i _ hsh _ hok hpre _
  obtain ⟨_, _, _, fn', hfn', _, _, _, _, hval⟩ := hok
  have e : fn' = fn := Option.some.inj (hfn'.symm.trans hfn)
  subst e
  obtain ⟨⟨⟨ds, gs, before, hw, hc⟩, hx⟩, hz⟩ := hpre
  have hw' := DataW.Whole.of_heap (w' := w.forCall tape i) (by rfl) hw
  refine (contract (w.forCall tape i) w.heap.size i.args ds gs before hval hw' (hz.weights hw) (hX _ _ _ (by rfl) hx) hsh).mono fun e W' ⟨v, he, hp⟩ => ?_
  subst he
  exact ChangeSpec.post_blind hp
end Go.Proofs.YtancmkdmlghlpaaGreatDoor
