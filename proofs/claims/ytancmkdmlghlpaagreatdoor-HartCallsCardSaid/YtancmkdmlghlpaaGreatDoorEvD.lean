/- Each operation: the law behind 'opEv'. No statement is proved here. -/
import Derived.Test.YtancmkdmlghlpaaGreatDoorEvC
import Derived.Laws.StructEq
namespace Go.Proofs.YtancmkdmlghlpaaGreatDoor.Ev
open Go
section
variable {c : Cx} {v : Env} {ρ : Rho} {s : St} {w : World} {fr : List SV} {a : Act} {o : Oper} {p : Path} {r : Rs}
theorem zip_fold (off : Nat) : ∀ (vs : List Value) (k : Nat) (cs : Array Value), off + k + vs.length ≤ cs.size →
    (vs.zipIdx k).foldl (fun (cs : Array Value) (x : Value × Nat) => cs.setIfInBounds (off + x.2) x.1) cs = (writeAt cs.toList vs (off + k)).toArray
  | [], k, cs, _ => by simp [writeAt]
  | x :: vs, k, cs, h => by
    simp only [List.zipIdx_cons, List.foldl_cons, List.length_cons] at h ⊢
    rw [zip_fold off vs (k + 1) _ (by simp; omega)]
    have := list_seg_step cs.toList (off + k) x vs (by simp; omega)
    simp only [writeAt, Array.toList_setIfInBounds, List.length_cons]
    rw [show off + (k + 1) = off + k + 1 by omega, this]
theorem fill_ok {place : Nat → Option (Nat × Nat)} : ∀ {m : List (Nat × SV)} {M : List (Nat × Value)} {cells cells' : List SV} {L : List Value}, PairsOk ρ v m M → SV.denL ρ v cells = some L → fillSV place cells m = some cells' →
    ∃ L', Instr.fill place L.toArray M = some L'.toArray ∧ SV.denL ρ v cells' = some L'
  | _, _, cells, cells', L, .nil, hL, h => by
    simp [fillSV] at h; subst h
    exact ⟨L, rfl, hL⟩
  | _, _, cells, cells', L, .cons (i := i) (x := x) (V := V) (l := l) (L := M) hx t, hL, h => by
    simp only [fillSV] at h
    have hc := den_cells hx
    have hlc := denL_length hc
    have hlL := denL_length hL
    cases hp : place i with
    | none => simp [hp] at h
    | some q =>
      obtain ⟨off, size⟩ := q
      simp only [hp] at h
      split at h
      case isFalse => simp at h
      rename_i hcond
      obtain ⟨h1, h2⟩ := hcond
      obtain ⟨L', h3, h4⟩ := fill_ok t (writeAt_den hL hc off) h
      refine ⟨L', ?_, h4⟩
      have hsz : V.cells.size = size := by simp at hlc; omega
      simp only [Instr.fill, hp]
      rw [if_neg (by simp; omega)]
      have hz := zip_fold off V.cells.toList 0 L.toArray (by simp; omega)
      rw [← h3]
      congr 1
      rw [← Array.foldl_toList, Array.toList_zipIdx]
      simpa using hz
theorem placesOf_ok {P : Program} : ∀ {fs : List Field} {pl : List (Nat × Nat)}, placesOf P fs = some pl → fs.mapM (fun f => (P.info? f.type).map fun i => (f.offset, i.size)) = some pl
  | [], pl, h => by simp [placesOf] at h; subst h; rfl
  | f :: fs, pl, h => by
    simp only [placesOf, sizeB, Option.bind_eq_some_iff, Option.map_eq_some_iff] at h
    obtain ⟨m, ⟨i, hi, rfl⟩, pl, h2, rfl⟩ := h
    have := placesOf_ok h2
    simp only [List.mapM_cons, hi, this, Option.map_some, Option.bind_eq_bind, Option.bind_some, Option.pure_def]
theorem zeroCells_ok {t : TypeId} {z : List SV} (h : zeroCells c.P t = some z) : ∃ i zv, c.P.info? t = some i ∧ i.zero = some zv ∧ SV.denL ρ v z = some zv.cells.toList := by
  simp only [zeroCells, Option.bind_eq_some_iff] at h
  obtain ⟨zv, ⟨i, h1, h2⟩, h3⟩ := h
  exact ⟨i, zv, h1, h2, ofValL_ok h3⟩
theorem part_ok {t : TypeId} {l : List SV} {L : List Value} {off : Nat} {x : SV} (hL : SV.denL ρ v l = some L) (h : partSV c.P t l off = some x) (w : World) : ∃ V, (part t L.toArray off).run c.P w = .ok V w ∧ x.den ρ v = some V := by
  unfold partSV at h
  split at h
  · simp at h
  · rename_i d hu
    by_cases hd : d.isRow = true
    · rw [if_pos hd] at h
      simp only [Option.bind_eq_some_iff] at h
      obtain ⟨m, hm, h⟩ := h
      split at h
      case isFalse => simp at h
      rename_i hle
      simp only [Option.some.injEq] at h
      subst h
      refine ⟨.agg ((L.drop off).take m).toArray, ?_, by simp [SV.den, denL_take m (denL_drop off hL)]⟩
      simp only [part, Sem.run_bind, isAgg_run hu w, Result.andThen_ok, hd, if_true, sizeB_ok hm, Sem.run_pure]
      congr 2
      apply Array.ext'
      simp [List.extract]
    · rw [if_neg hd] at h
      obtain ⟨V, h1, h2⟩ := denL_get hL h
      refine ⟨V, ?_, h2⟩
      have hd' : d.isRow = false := by simpa using hd
      simp only [part, Sem.run_bind, isAgg_run hu w, Result.andThen_ok, hd', Bool.false_eq_true, if_false, List.getElem?_toArray, h1, Sem.run_pure]
theorem add_mid (b o n : Nat) : (⟨b, o, none⟩ : Addr).add n = ⟨b, o + n, none⟩ := Addr.add_mid b o n
theorem offBy_ok {x y : SV} {A : Value} {n : Nat} (hA : x.den ρ v = some A) (h : offBy x n = some y) : ∃ b off, A = .pointer (some ⟨b, off, none⟩) ∧ y.den ρ v = some (.pointer (some ⟨b, off + n, none⟩)) := by
  unfold offBy at h
  split at h
  · simp at h; subst h
    simp only [SV.den, Option.map_eq_some_iff] at hA ⊢
    obtain ⟨b, hb, rfl⟩ := hA
    exact ⟨b.1, _, rfl, b, hb, rfl⟩
  · simp at h; subst h
    simp only [SV.den, Option.map_eq_some_iff] at hA ⊢
    obtain ⟨b, hb, rfl⟩ := hA
    exact ⟨b.1, _, rfl, b, hb, by congr 3; omega⟩
  · simp at h

theorem eq_bool {P : Program} {xt : TypeId} (A B : Bool) (hu : P.underlying xt = some (.bool)) (x y : Operand) (w : World) :
    (do eqGuard .eql xt x y (.bool A) (.bool B); binOp .eql xt (.bool A) (.bool B) : Sem Value).run P w = .ok (.bool (A == B)) w ∧ (do eqGuard .neq xt x y (.bool A) (.bool B); binOp .neq xt (.bool A) (.bool B) : Sem Value).run P w = .ok (.bool (!(A == B))) w := by
  have h : (Op.equal xt (.bool A) (.bool B)).run P w = .ok (A == B) w := by
    show (Op.equalIn (9999 + 1) xt (.bool A) (.bool B)).run P w = _
    rw [Op.equalIn]
    simp [run_underlying hu]
  constructor <;> simp [eqGuard, binOp, h]
theorem eq_pn {P : Program} {xt : TypeId} (A : Addr) (e : TypeId) (hu : P.underlying xt = some (.pointer e)) (x y : Operand) (w : World) :
    (do eqGuard .eql xt x y (.pointer (some A)) (.pointer none); binOp .eql xt (.pointer (some A)) (.pointer none) : Sem Value).run P w = .ok (.bool false) w ∧ (do eqGuard .neq xt x y (.pointer (some A)) (.pointer none); binOp .neq xt (.pointer (some A)) (.pointer none) : Sem Value).run P w = .ok (.bool (!false)) w := by
  have h : (Op.equal xt (.pointer (some A)) (.pointer none)).run P w = .ok false w := by
    show (Op.equalIn (9999 + 1) xt (.pointer (some A)) (.pointer none)).run P w = _
    rw [Op.equalIn]
    simp [run_underlying hu]
  constructor <;> simp [eqGuard, binOp, h]
theorem eq_np {P : Program} {xt : TypeId} (A : Addr) (e : TypeId) (hu : P.underlying xt = some (.pointer e)) (x y : Operand) (w : World) :
    (do eqGuard .eql xt x y (.pointer none) (.pointer (some A)); binOp .eql xt (.pointer none) (.pointer (some A)) : Sem Value).run P w = .ok (.bool false) w ∧ (do eqGuard .neq xt x y (.pointer none) (.pointer (some A)); binOp .neq xt (.pointer none) (.pointer (some A)) : Sem Value).run P w = .ok (.bool (!false)) w := by
  have h : (Op.equal xt (.pointer none) (.pointer (some A))).run P w = .ok false w := by
    show (Op.equalIn (9999 + 1) xt (.pointer none) (.pointer (some A))).run P w = _
    rw [Op.equalIn]
    simp [run_underlying hu]
  constructor <;> simp [eqGuard, binOp, h]
theorem eq_nn {P : Program} {xt : TypeId} (e : TypeId) (hu : P.underlying xt = some (.pointer e)) (x y : Operand) (w : World) :
    (do eqGuard .eql xt x y (.pointer none) (.pointer none); binOp .eql xt (.pointer none) (.pointer none) : Sem Value).run P w = .ok (.bool true) w ∧ (do eqGuard .neq xt x y (.pointer none) (.pointer none); binOp .neq xt (.pointer none) (.pointer none) : Sem Value).run P w = .ok (.bool (!true)) w := by
  have h : (Op.equal xt (.pointer none) (.pointer none)).run P w = .ok true w := by
    show (Op.equalIn (9999 + 1) xt (.pointer none) (.pointer none)).run P w = _
    rw [Op.equalIn]
    simp [run_underlying hu]
  constructor <;> simp [eqGuard, binOp, h]
theorem eq_fn {P : Program} {xt : TypeId} (f : Fn) (A B : Array Value) (q q1 : Array TypeId) (q2 : Bool) (hu : P.underlying xt = some (.func q q1 q2)) (x y : Operand) (w : World) :
    (do eqGuard .eql xt x y (.func f A B) .nilFunc; binOp .eql xt (.func f A B) .nilFunc : Sem Value).run P w = .ok (.bool false) w ∧ (do eqGuard .neq xt x y (.func f A B) .nilFunc; binOp .neq xt (.func f A B) .nilFunc : Sem Value).run P w = .ok (.bool (!false)) w := by
  have h : (Op.equal xt (.func f A B) .nilFunc).run P w = .ok false w := by
    show (Op.equalIn (9999 + 1) xt (.func f A B) .nilFunc).run P w = _
    rw [Op.equalIn]
    simp [run_underlying hu]
  constructor <;> simp [eqGuard, binOp, h]
theorem eq_nf {P : Program} {xt : TypeId} (f : Fn) (A B : Array Value) (q q1 : Array TypeId) (q2 : Bool) (hu : P.underlying xt = some (.func q q1 q2)) (x y : Operand) (w : World) :
    (do eqGuard .eql xt x y .nilFunc (.func f A B); binOp .eql xt .nilFunc (.func f A B) : Sem Value).run P w = .ok (.bool false) w ∧ (do eqGuard .neq xt x y .nilFunc (.func f A B); binOp .neq xt .nilFunc (.func f A B) : Sem Value).run P w = .ok (.bool (!false)) w := by
  have h : (Op.equal xt .nilFunc (.func f A B)).run P w = .ok false w := by
    show (Op.equalIn (9999 + 1) xt .nilFunc (.func f A B)).run P w = _
    rw [Op.equalIn]
    simp [run_underlying hu]
  constructor <;> simp [eqGuard, binOp, h]
theorem eq_ff {P : Program} {xt : TypeId} (q q1 : Array TypeId) (q2 : Bool) (hu : P.underlying xt = some (.func q q1 q2)) (x y : Operand) (w : World) :
    (do eqGuard .eql xt x y .nilFunc .nilFunc; binOp .eql xt .nilFunc .nilFunc : Sem Value).run P w = .ok (.bool true) w ∧ (do eqGuard .neq xt x y .nilFunc .nilFunc; binOp .neq xt .nilFunc .nilFunc : Sem Value).run P w = .ok (.bool (!true)) w := by
  have h : (Op.equal xt .nilFunc .nilFunc).run P w = .ok true w := by
    show (Op.equalIn (9999 + 1) xt .nilFunc .nilFunc).run P w = _
    rw [Op.equalIn]
    simp [run_underlying hu]
  constructor <;> simp [eqGuard, binOp, h]
theorem eq_iN {P : Program} {xt : TypeId} (t : TypeId) (A : Value) (q : Array (String × TypeId)) (hu : P.underlying xt = some (.interface q)) (x y : Operand) (w : World) :
    (do eqGuard .eql xt x y (.iface t A) .nilIface; binOp .eql xt (.iface t A) .nilIface : Sem Value).run P w = .ok (.bool false) w ∧ (do eqGuard .neq xt x y (.iface t A) .nilIface; binOp .neq xt (.iface t A) .nilIface : Sem Value).run P w = .ok (.bool (!false)) w := by
  have h : (Op.equal xt (.iface t A) .nilIface).run P w = .ok false w := by
    show (Op.equalIn (9999 + 1) xt (.iface t A) .nilIface).run P w = _
    rw [Op.equalIn]
    simp [run_underlying hu]
  constructor <;> simp [eqGuard, binOp, h]
theorem eq_Ni {P : Program} {xt : TypeId} (t : TypeId) (A : Value) (q : Array (String × TypeId)) (hu : P.underlying xt = some (.interface q)) (x y : Operand) (w : World) :
    (do eqGuard .eql xt x y .nilIface (.iface t A); binOp .eql xt .nilIface (.iface t A) : Sem Value).run P w = .ok (.bool false) w ∧ (do eqGuard .neq xt x y .nilIface (.iface t A); binOp .neq xt .nilIface (.iface t A) : Sem Value).run P w = .ok (.bool (!false)) w := by
  have h : (Op.equal xt .nilIface (.iface t A)).run P w = .ok false w := by
    show (Op.equalIn (9999 + 1) xt .nilIface (.iface t A)).run P w = _
    rw [Op.equalIn]
    simp [run_underlying hu]
  constructor <;> simp [eqGuard, binOp, h]
theorem eq_NN {P : Program} {xt : TypeId} (q : Array (String × TypeId)) (hu : P.underlying xt = some (.interface q)) (x y : Operand) (hc : (isCst x || isCst y) = true) (w : World) :
    (do eqGuard .eql xt x y .nilIface .nilIface; binOp .eql xt .nilIface .nilIface : Sem Value).run P w = .ok (.bool true) w ∧ (do eqGuard .neq xt x y .nilIface .nilIface; binOp .neq xt .nilIface .nilIface : Sem Value).run P w = .ok (.bool false) w := by
  have h : (Op.equal xt .nilIface .nilIface).run P w = .ok true w := by
    show (Op.equalIn (9999 + 1) xt .nilIface .nilIface).run P w = _
    rw [Op.equalIn]
    simp [run_underlying hu]
  cases x <;> cases y <;> simp [isCst] at hc <;> constructor <;> simp [eqGuard, binOp, h]
theorem eqFs_ok {D : Nat} {rec : TypeId → SV → SV → Option E} (hrec : ∀ {t : TypeId} {x y : SV} {e : E} {X Y : Value}, rec t x y = some e → x.den ρ v = some X → y.den ρ v = some Y → (Op.equalIn D t X Y).run c.P w = .ok (e.b v) w)
    {l m : List SV} {L M : List Value} (hL : SV.denL ρ v l = some L) (hM : SV.denL ρ v m = some M) : ∀ {fs : List Field} {e : E}, eqFs c.P rec l m fs = some e → (Op.eqFields D L.toArray M.toArray fs).run c.P w = .ok (e.b v) w
  | [], e, h => by simp [eqFs] at h; subst h; simp [Op.eqFields, E.b]
  | f :: fs, e, h => by
    simp only [eqFs] at h
    by_cases hn : f.name = "_"
    · rw [if_pos hn] at h
      simp only [Op.eqFields, hn]
      exact eqFs_ok hrec hL hM h
    · rw [if_neg hn] at h
      simp only [Option.bind_eq_some_iff, Option.map_eq_some_iff] at h
      obtain ⟨a, ha, b, hb, e1, he1, e2, he2, rfl⟩ := h
      obtain ⟨A, h1, h2⟩ := part_ok hL ha w
      obtain ⟨B, h3, h4⟩ := part_ok hM hb w
      have ih := eqFs_ok hrec hL hM he2
      simp only [Op.eqFields]
      rw [if_pos hn]
      simp only [Sem.run_bind, h1, Result.andThen_ok, h3, hrec he1 h2 h4, mkAnd_b]
      cases e1.b v
      · simp
      · simpa using ih
theorem eqAr_ok {D : Nat} {elem n : Nat} {rec : SV → SV → Option E} (hrec : ∀ {x y : SV} {e : E} {X Y : Value}, rec x y = some e → x.den ρ v = some X → y.den ρ v = some Y → (Op.equalIn D elem X Y).run c.P w = .ok (e.b v) w)
    {l m : List SV} {L M : List Value} (hL : SV.denL ρ v l = some L) (hM : SV.denL ρ v m = some M) : ∀ {k i : Nat} {e : E}, eqAr c.P rec elem n l m i k = some e →
    ((forIn (List.range' i k 1) (none, ()) fun i _ => do
      let a ← part elem L.toArray (i * n)
      let b ← part elem M.toArray (i * n)
      let q ← Op.equalIn D elem a b
      if (!q) = true then pure (ForInStep.done (some false, ())) else pure (ForInStep.yield (none, ())) : Sem (Option Bool × Unit))).run c.P w = .ok (if e.b v = true then (none, ()) else (some false, ())) w
  | 0, i, e, h => by simp [eqAr] at h; subst h; simp [E.b]
  | k + 1, i, e, h => by
    simp only [eqAr, Option.bind_eq_some_iff, Option.map_eq_some_iff] at h
    obtain ⟨a, ha, b, hb, e1, he1, e2, he2, rfl⟩ := h
    obtain ⟨A, h1, h2⟩ := part_ok hL ha w
    obtain ⟨B, h3, h4⟩ := part_ok hM hb w
    have ih := eqAr_ok hrec hL hM he2
    rw [List.range'_succ, List.forIn_cons]
    simp only [Sem.run_bind, h1, Result.andThen_ok, h3, hrec he1 h2 h4, mkAnd_b]
    cases e1.b v
    · simp
    · simpa using ih
theorem eqSV_ok : ∀ {d : Nat} {t : TypeId} {x y : SV} {e : E} {X Y : Value}, eqSV c.P d t x y = some e → x.den ρ v = some X → y.den ρ v = some Y → ∀ D, (Op.equalIn (d + D) t X Y).run c.P w = .ok (e.b v) w
  | 0, t, x, y, e, X, Y, h, _, _, _ => by simp [eqSV] at h
  | d + 1, t, x, y, e, X, Y, h, hX, hY, D => by
    rw [show d + 1 + D = (d + D) + 1 by omega]
    simp only [eqSV] at h
    split at h
    · rename_i A B hu
      simp at h; subst h
      simp only [SV.den, Option.some.injEq] at hX hY
      subst hX hY
      rw [mkBeq_b]
      exact run_equalIn_bool' w (d + D) t _ _ hu
    · rename_i k' k A l B hu
      cases hk : kindEq k l
      · simp [hk] at h
      · simp only [hk, cond_true, Option.some.injEq] at h
        have : k = l := by simpa [kindEq] using hk
        subst this h
        simp only [SV.den, Option.some.injEq] at hX hY
        subst hX hY
        rw [mkCmp0_b]
        simp [Op.equalIn, run_underlying hu, cmpB]
    · rename_i fs l m hu
      cases hs : c.P.stoodInHeld t
      · simp only [hs, cond_false] at h
        simp only [SV.den, Option.map_eq_some_iff] at hX hY
        obtain ⟨L, hL, rfl⟩ := hX
        obtain ⟨M, hM, rfl⟩ := hY
        have hfs : c.P.fieldsOf t = fs := by simp [Program.fieldsOf, hu]
        rw [run_equalIn_struct w (d + D) t _ _ (by rw [hfs]; exact hu) hs, hfs]
        exact eqFs_ok (fun h1 h2 h3 => eqSV_ok h1 h2 h3 D) hL hM h
      · simp [hs] at h
    · rename_i n el l m hu
      simp only [Option.bind_eq_some_iff] at h
      obtain ⟨k, hk, h⟩ := h
      simp only [SV.den, Option.map_eq_some_iff] at hX hY
      obtain ⟨L, hL, rfl⟩ := hX
      obtain ⟨M, hM, rfl⟩ := hY
      have := eqAr_ok (D := d + D) (fun h1 h2 h3 => eqSV_ok h1 h2 h3 D) hL hM h
      simp only [Op.equalIn, Sem.run_bind, run_underlying hu, Result.andThen_ok, sizeB_ok hk]
      rw [Std.Legacy.Range.forIn_eq_forIn_range']
      have hsz : ([:n] : Std.Legacy.Range).size = n := by simp [Std.Legacy.Range.size]
      rw [hsz]
      show (Sem.run c.P (forIn (List.range' 0 n 1) (none, ()) _) w).andThen _ = _
      rw [this]
      cases e.b v <;> simp
    · simp at h
theorem eq_agg {l m : List SV} {L M : List Value} {xt : TypeId} {e : E} (hg : c.P.eqGuardType c.P.depth xt = false) (hL : SV.denL ρ v l = some L) (hM : SV.denL ρ v m = some M) (h : eqSV c.P 20 xt (.agg l) (.agg m) = some e) (x y : Operand) :
    (do eqGuard .eql xt x y (.agg L.toArray) (.agg M.toArray); binOp .eql xt (.agg L.toArray) (.agg M.toArray) : Sem Value).run c.P w = .ok (.bool (e.b v)) w ∧
    (do eqGuard .neq xt x y (.agg L.toArray) (.agg M.toArray); binOp .neq xt (.agg L.toArray) (.agg M.toArray) : Sem Value).run c.P w = .ok (.bool (!(e.b v))) w := by
  have h1 : (Op.equalIn 10000 xt (.agg L.toArray) (.agg M.toArray)).run c.P w = .ok (e.b v) w :=
    eqSV_ok (ρ := ρ) h (by simp [SV.den, hL]) (by simp [SV.den, hM]) 9980
  constructor
  · rw [Sem.run_bind, run_eqGuard_agg w _ _ _ _ _ _ hg, Result.andThen_ok, run_eql_struct, h1]; rfl
  · rw [Sem.run_bind, run_eqGuard_agg w _ _ _ _ _ _ hg, Result.andThen_ok, run_neq_struct, h1]; rfl
theorem bin_ok (hR : Rep c ρ v s w) (hp : PathOk v p) {op : BinOp} {xt yt : TypeId} {x y : Operand} (ho : o.op = .binOp op xt x y yt) {x' y' : SV} (hx : x'.den ρ v = some (a.eval x)) (hy : y'.den ρ v = some (a.eval y))
    (h : (binSV c op xt p s (isCst x || isCst y) x' y').pick v = some r) : OpOk c v ρ w a.eval o r := by
  unfold binSV at h
  have hrun : ∀ {V : Value}, ((do eqGuard op xt x y (a.eval x) (a.eval y); binOp op xt (a.eval x) (a.eval y) : Sem Value)).run c.P w = .ok V w → (execOp a.eval o).run c.P w = .ok (.value V) w := by
    intro V h
    unfold execOp
    simp only [ho, Sem.run_bind] at h ⊢
    rw [h]; rfl
  split at h
  · -- ints
    rename_i k A l B
    simp only [SV.den, Option.some.injEq] at hx hy
    rw [← hx, ← hy] at hrun
    have fin : ∀ {X : SV} {V : Value}, kindEq k l = true → (do eqGuard op xt x y (.int k (A.i v)) (.int k (B.i v)); binOp op xt (.int k (A.i v)) (.int k (B.i v)) : Sem Value).run c.P w = .ok V w → X.den ρ v = some V → r = .val X s → OpOk c v ρ w a.eval o r := by
      intro X V hk h1 h2 h3
      have : k = l := by simpa [kindEq] using hk
      subst this h3
      exact val_ok hR (hrun h1) h2
    cases op
    case shl =>
      obtain ⟨p', hp', h | h⟩ := pick_mkIf hp h
      · exact (pick_bad h.2).elim
      · obtain ⟨hc, h⟩ := h
        rw [mkCmp0_b] at hc
        have hc' : ¬ B.i v < 0 := of_decide_eq_false hc
        rw [pick_okV h]
        refine val_ok hR (hrun (V := .int k (binI .shl k (A.i v) (B.i v))) ?_) (by simp only [SV.den, mkBin_i])
        simp [eqGuard, binOp, Op.shift, hc', binI]
    case shr =>
      obtain ⟨p', hp', h | h⟩ := pick_mkIf hp h
      · exact (pick_bad h.2).elim
      · obtain ⟨hc, h⟩ := h
        rw [mkCmp0_b] at hc
        have hc' : ¬ B.i v < 0 := of_decide_eq_false hc
        rw [pick_okV h]
        refine val_ok hR (hrun (V := .int k (binI .shr k (A.i v) (B.i v))) ?_) (by simp only [SV.den, mkBin_i])
        simp [eqGuard, binOp, Op.shift, hc', binI]
    case quo =>
      dsimp only at h
      cases hk : kindEq k l
      · simp only [hk, cond_false] at h; exact (pick_bad h).elim
      · simp only [hk, cond_true] at h
        obtain ⟨p', hp', h | h⟩ := pick_mkIf hp h
        · exact (pick_bad h.2).elim
        · obtain ⟨hc, h⟩ := h
          rw [mkCmp0_b] at hc
          have hc' : ¬ B.i v = 0 := beq_eq_false_iff_ne.1 hc
          exact fin hk (V := .int k (binI .quo k (A.i v) (B.i v))) (by simp [eqGuard, binOp, Op.intDiv, hc', binI]) (by simp only [SV.den, knownE_i hp, mkBin_i]) (pick_okV h)
    case rem =>
      dsimp only at h
      cases hk : kindEq k l
      · simp only [hk, cond_false] at h; exact (pick_bad h).elim
      · simp only [hk, cond_true] at h
        obtain ⟨p', hp', h | h⟩ := pick_mkIf hp h
        · exact (pick_bad h.2).elim
        · obtain ⟨hc, h⟩ := h
          rw [mkCmp0_b] at hc
          have hc' : ¬ B.i v = 0 := beq_eq_false_iff_ne.1 hc
          exact fin hk (V := .int k (binI .rem k (A.i v) (B.i v))) (by simp [eqGuard, binOp, Op.intDiv, hc', binI]) (by simp only [SV.den, knownE_i hp, mkBin_i]) (pick_okV h)
    case add =>
      dsimp only at h
      cases hk : kindEq k l
      · simp only [hk, cond_false] at h; exact (pick_bad h).elim
      · simp only [hk, cond_true] at h
        exact fin hk (V := .int k (binI .add k (A.i v) (B.i v))) (by simp [eqGuard, binOp, Op.intArith, binI]) (by simp only [SV.den, mkBin_i]) (pick_okV h)
    case sub =>
      dsimp only at h
      cases hk : kindEq k l
      · simp only [hk, cond_false] at h; exact (pick_bad h).elim
      · simp only [hk, cond_true] at h
        exact fin hk (V := .int k (binI .sub k (A.i v) (B.i v))) (by simp [eqGuard, binOp, Op.intArith, binI]) (by simp only [SV.den, mkBin_i]) (pick_okV h)
    case mul =>
      dsimp only at h
      cases hk : kindEq k l
      · simp only [hk, cond_false] at h; exact (pick_bad h).elim
      · simp only [hk, cond_true] at h
        exact fin hk (V := .int k (binI .mul k (A.i v) (B.i v))) (by simp [eqGuard, binOp, Op.intArith, binI]) (by simp only [SV.den, mkBin_i]) (pick_okV h)
    case and =>
      dsimp only at h
      cases hk : kindEq k l
      · simp only [hk, cond_false] at h; exact (pick_bad h).elim
      · simp only [hk, cond_true] at h
        exact fin hk (V := .int k (binI .and k (A.i v) (B.i v))) (by simp [eqGuard, binOp, Op.intBits, binI]) (by simp only [SV.den, mkBin_i]) (pick_okV h)
    case or =>
      dsimp only at h
      cases hk : kindEq k l
      · simp only [hk, cond_false] at h; exact (pick_bad h).elim
      · simp only [hk, cond_true] at h
        exact fin hk (V := .int k (binI .or k (A.i v) (B.i v))) (by simp [eqGuard, binOp, Op.intBits, binI]) (by simp only [SV.den, mkBin_i]) (pick_okV h)
    case xor =>
      dsimp only at h
      cases hk : kindEq k l
      · simp only [hk, cond_false] at h; exact (pick_bad h).elim
      · simp only [hk, cond_true] at h
        exact fin hk (V := .int k (binI .xor k (A.i v) (B.i v))) (by simp [eqGuard, binOp, Op.intBits, binI]) (by simp only [SV.den, mkBin_i]) (pick_okV h)
    case andNot =>
      dsimp only at h
      cases hk : kindEq k l
      · simp only [hk, cond_false] at h; exact (pick_bad h).elim
      · simp only [hk, cond_true] at h
        exact fin hk (V := .int k (binI .andNot k (A.i v) (B.i v))) (by simp [eqGuard, binOp, Op.intBits, binI]) (by simp only [SV.den, mkBin_i]) (pick_okV h)
    case eql =>
      dsimp only at h
      cases hk : kindEq k l
      · simp only [hk, cond_false] at h; exact (pick_bad h).elim
      · simp only [hk, cond_true] at h
        exact fin hk (V := .bool (cmpG .eql (A.i v) (B.i v))) (by simp [eqGuard, binOp, Op.intCmp, cmpG]) (by simp only [SV.den]; rw [mkCmp_b _ _ _ _ (by simp)]) (pick_okV h)
    case neq =>
      dsimp only at h
      cases hk : kindEq k l
      · simp only [hk, cond_false] at h; exact (pick_bad h).elim
      · simp only [hk, cond_true] at h
        exact fin hk (V := .bool (cmpG .neq (A.i v) (B.i v))) (by simp [eqGuard, binOp, Op.intCmp, cmpG]) (by simp only [SV.den]; rw [mkCmp_b _ _ _ _ (by simp)]) (pick_okV h)
    case lss =>
      dsimp only at h
      cases hk : kindEq k l
      · simp only [hk, cond_false] at h; exact (pick_bad h).elim
      · simp only [hk, cond_true] at h
        exact fin hk (V := .bool (cmpG .lss (A.i v) (B.i v))) (by simp [eqGuard, binOp, Op.intCmp, cmpG]) (by simp only [SV.den]; rw [mkCmp_b _ _ _ _ (by simp)]) (pick_okV h)
    case leq =>
      dsimp only at h
      cases hk : kindEq k l
      · simp only [hk, cond_false] at h; exact (pick_bad h).elim
      · simp only [hk, cond_true] at h
        exact fin hk (V := .bool (cmpG .leq (A.i v) (B.i v))) (by simp [eqGuard, binOp, Op.intCmp, cmpG]) (by simp only [SV.den]; rw [mkCmp_b _ _ _ _ (by simp)]) (pick_okV h)
    case gtr =>
      dsimp only at h
      cases hk : kindEq k l
      · simp only [hk, cond_false] at h; exact (pick_bad h).elim
      · simp only [hk, cond_true] at h
        exact fin hk (V := .bool (cmpG .gtr (A.i v) (B.i v))) (by simp [eqGuard, binOp, Op.intCmp, cmpG]) (by simp only [SV.den]; rw [mkCmp_b _ _ _ _ (by simp)]) (pick_okV h)
    case geq =>
      dsimp only at h
      cases hk : kindEq k l
      · simp only [hk, cond_false] at h; exact (pick_bad h).elim
      · simp only [hk, cond_true] at h
        exact fin hk (V := .bool (cmpG .geq (A.i v) (B.i v))) (by simp [eqGuard, binOp, Op.intCmp, cmpG]) (by simp only [SV.den]; rw [mkCmp_b _ _ _ _ (by simp)]) (pick_okV h)
  · -- bools
    simp only [SV.den, Option.some.injEq] at hx hy
    rw [← hx, ← hy] at hrun
    split at h
    · rename_i hu
      rw [pick_okV h]
      exact val_ok hR (hrun (eq_bool _ _ hu x y w).1) (by simp [SV.den, mkBeq_b])
    · rename_i hu
      rw [pick_okV h]
      exact val_ok hR (hrun (eq_bool _ _ hu x y w).2) (by simp [SV.den, mkBeq_b, mkNot_b])
    · exact (pick_bad h).elim
  · simp only [SV.den, Option.map_eq_some_iff, Option.some.injEq] at hx hy
    obtain ⟨_, _, hx⟩ := hx
    rw [← hx, ← hy] at hrun
    split at h
    · rename_i hu
      rw [pick_okV h]
      exact val_ok hR (hrun (eq_pn _ _ hu x y w).1) (by simp [SV.den, E.b])
    · rename_i hu
      rw [pick_okV h]
      exact val_ok hR (hrun (eq_pn _ _ hu x y w).2) (by simp [SV.den, E.b])
    · exact (pick_bad h).elim
  · simp only [SV.den, Option.map_eq_some_iff, Option.some.injEq] at hx hy
    obtain ⟨_, _, hy⟩ := hy
    rw [← hx, ← hy] at hrun
    split at h
    · rename_i hu
      rw [pick_okV h]
      exact val_ok hR (hrun (eq_np _ _ hu x y w).1) (by simp [SV.den, E.b])
    · rename_i hu
      rw [pick_okV h]
      exact val_ok hR (hrun (eq_np _ _ hu x y w).2) (by simp [SV.den, E.b])
    · exact (pick_bad h).elim
  · simp only [SV.den, Option.map_eq_some_iff, Option.some.injEq] at hx hy
    obtain ⟨_, _, hx⟩ := hx
    rw [← hx, ← hy] at hrun
    split at h
    · rename_i hu
      rw [pick_okV h]
      exact val_ok hR (hrun (eq_pn _ _ hu x y w).1) (by simp [SV.den, E.b])
    · rename_i hu
      rw [pick_okV h]
      exact val_ok hR (hrun (eq_pn _ _ hu x y w).2) (by simp [SV.den, E.b])
    · exact (pick_bad h).elim
  · simp only [SV.den, Option.map_eq_some_iff, Option.some.injEq] at hx hy
    obtain ⟨_, _, hx⟩ := hx
    rw [← hx, ← hy] at hrun
    split at h
    · rename_i hu
      rw [pick_okV h]
      exact val_ok hR (hrun (eq_pn _ _ hu x y w).1) (by simp [SV.den, E.b])
    · rename_i hu
      rw [pick_okV h]
      exact val_ok hR (hrun (eq_pn _ _ hu x y w).2) (by simp [SV.den, E.b])
    · exact (pick_bad h).elim
  · rename_i l m
    cases hg : c.P.eqGuardType c.P.depth xt
    · simp only [hg, cond_false] at h
      simp only [SV.den, Option.map_eq_some_iff] at hx hy
      obtain ⟨L, hL, hx⟩ := hx
      obtain ⟨M, hM, hy⟩ := hy
      rw [← hx, ← hy] at hrun
      split at h
      · rename_i e he
        rw [pick_okV h]
        exact val_ok hR (hrun (eq_agg (w := w) hg hL hM he x y).1) (by simp [SV.den])
      · rename_i e he
        rw [pick_okV h]
        exact val_ok hR (hrun (eq_agg (w := w) hg hL hM he x y).2) (by simp [SV.den, mkNot_b])
      · exact (pick_bad h).elim
    · simp only [hg, cond_true] at h; exact (pick_bad h).elim
  · cases hc : (isCst x || isCst y)
    · simp only [hc, cond_false] at h; exact (pick_bad h).elim
    simp only [hc, cond_true] at h
    simp only [SV.den, Option.some.injEq] at hx hy
    rw [← hx, ← hy] at hrun
    split at h
    · rename_i hu
      rw [pick_okV h]
      exact val_ok hR (hrun (eq_NN _ hu x y hc w).1) (by simp [SV.den, E.b])
    · rename_i hu
      rw [pick_okV h]
      exact val_ok hR (hrun (eq_NN _ hu x y hc w).2) (by simp [SV.den, E.b])
    · exact (pick_bad h).elim
  · simp only [SV.den, Option.map_eq_some_iff, Option.some.injEq] at hx hy
    obtain ⟨_, _, hx⟩ := hx
    rw [← hx, ← hy] at hrun
    split at h
    · rename_i hu
      rw [pick_okV h]
      exact val_ok hR (hrun (eq_iN _ _ _ hu x y w).1) (by simp [SV.den, E.b])
    · rename_i hu
      rw [pick_okV h]
      exact val_ok hR (hrun (eq_iN _ _ _ hu x y w).2) (by simp [SV.den, E.b])
    · exact (pick_bad h).elim
  · simp only [SV.den, Option.map_eq_some_iff, Option.some.injEq] at hx hy
    obtain ⟨_, _, hy⟩ := hy
    rw [← hx, ← hy] at hrun
    split at h
    · rename_i hu
      rw [pick_okV h]
      exact val_ok hR (hrun (eq_Ni _ _ _ hu x y w).1) (by simp [SV.den, E.b])
    · rename_i hu
      rw [pick_okV h]
      exact val_ok hR (hrun (eq_Ni _ _ _ hu x y w).2) (by simp [SV.den, E.b])
    · exact (pick_bad h).elim
  · simp only [SV.den, Option.map_eq_some_iff, Option.some.injEq, Option.bind_eq_some_iff] at hx hy
    obtain ⟨_, _, _, _, hx⟩ := hx
    rw [← hx, ← hy] at hrun
    split at h
    · rename_i hu
      rw [pick_okV h]
      exact val_ok hR (hrun (eq_fn _ _ _ _ _ _ hu x y w).1) (by simp [SV.den, E.b])
    · rename_i hu
      rw [pick_okV h]
      exact val_ok hR (hrun (eq_fn _ _ _ _ _ _ hu x y w).2) (by simp [SV.den, E.b])
    · exact (pick_bad h).elim
  · simp only [SV.den, Option.map_eq_some_iff, Option.some.injEq, Option.bind_eq_some_iff] at hx hy
    obtain ⟨_, _, _, _, hy⟩ := hy
    rw [← hx, ← hy] at hrun
    split at h
    · rename_i hu
      rw [pick_okV h]
      exact val_ok hR (hrun (eq_nf _ _ _ _ _ _ hu x y w).1) (by simp [SV.den, E.b])
    · rename_i hu
      rw [pick_okV h]
      exact val_ok hR (hrun (eq_nf _ _ _ _ _ _ hu x y w).2) (by simp [SV.den, E.b])
    · exact (pick_bad h).elim
  · simp only [SV.den, Option.some.injEq] at hx hy
    rw [← hx, ← hy] at hrun
    split at h
    · rename_i hu
      rw [pick_okV h]
      exact val_ok hR (hrun (eq_ff _ _ _ hu x y w).1) (by simp [SV.den, E.b])
    · rename_i hu
      rw [pick_okV h]
      exact val_ok hR (hrun (eq_ff _ _ _ hu x y w).2) (by simp [SV.den, E.b])
    · exact (pick_bad h).elim
  · simp only [SV.den, Option.some.injEq] at hx hy
    rw [← hx, ← hy] at hrun
    split at h
    · rename_i hu
      rw [pick_okV h]
      exact val_ok hR (hrun (eq_nn _ hu x y w).1) (by simp [SV.den, E.b])
    · rename_i hu
      rw [pick_okV h]
      exact val_ok hR (hrun (eq_nn _ hu x y w).2) (by simp [SV.den, E.b])
    · exact (pick_bad h).elim
  · exact (pick_bad h).elim
end
end Go.Proofs.YtancmkdmlghlpaaGreatDoor.Ev
