/- A region that draws its order, its first operations quiet: the order of the text serves. No statement is proved here. -/
import Derived.Test.YtancmkdmlghlpaaGreatDoorEvDefs
namespace Go.Proofs.YtancmkdmlghlpaaGreatDoor.Ev
open Go
section
variable {P : Program} {ops : Array Oper} {C : World → Prop} {Q : Exit → Act → World → Prop}
/-- In state a, in every world of the class, the operation leaves V, and a world of the class. -/
def Yc (P : Program) (ops : Array Oper) (C : World → Prop) (o : Oper) (V : Value) (a : Act) : Prop :=
  (Region.wanted o (yielded ops a.tmps) = true ∧ ∀ w, C w →
    (∃ w', (execOp a.eval o).run P w = .ok (.value V) w' ∧ C w') ∨ (∃ f args, (execOp a.eval o).run P w = .ok (.enter f args) w ∧ Calls P f args w (fun e w'' => e = .returned V ∧ C w''))) ∨
  (Region.wanted o (yielded ops a.tmps) = false ∧ V = undef)
theorem Yc.wpOp {i : Nat} {o : Oper} {V : Value} {a : Act} (hi : ops[i]? = some o) (hy : Yc P ops C o V a) {K : Act → World → Prop} {w : World} (hC : C w) (h : ∀ w', C w' → K (a.put o.dst V) w') : wpOp P ops Q i K a w := by
  unfold Go.wpOp
  simp only [hi]
  rcases hy with ⟨hw, hv⟩ | ⟨hw, rfl⟩
  · simp only [hw, if_true]
    refine .inl ?_
    rcases hv w hC with ⟨w', h1, h2⟩ | ⟨f, args, h1, h2⟩
    · simp only [Oper.wp, h1, Oper.upon]; exact h w' h2
    · simp only [Oper.wp, h1, Oper.upon]
      exact h2.mono fun e w'' ⟨he, hw''⟩ => by subst he; exact h w'' hw''
  · simp only [hw, Bool.false_eq_true, if_false]; exact h w hC
theorem Yc.congr {o : Oper} {V : Value} {a a' : Act} (hy : Yc P ops C o V a) (hsel : ∀ cs b, o.op ≠ .select cs b) (h : ∀ d ∈ o.looksAt ops, a'.tmps[d]? = a.tmps[d]?) : Yc P ops C o V a' := by
  have he : execOp a'.eval o = execOp a.eval o := execOp_congr o hsel fun x hx => by
    cases x with
    | tmp t =>
      have : t ∈ o.looksAt ops := List.mem_append_left _ (List.mem_filterMap.2 ⟨.tmp t, by simpa using hx, rfl⟩)
      simp only [Act.eval, Array.getD_eq_getD_getElem?, h t this]
    | _ => rfl
  have hw : Region.wanted o (yielded ops a'.tmps) = Region.wanted o (yielded ops a.tmps) := by
    unfold Region.wanted
    cases hg : o.guard with
    | none => rfl
    | some g =>
      obtain ⟨j, want⟩ := g
      simp only [yielded]
      cases hd : (ops[j]?).bind (·.dst) with
      | none => rfl
      | some d =>
        have : d ∈ o.looksAt ops := by
          unfold Oper.looksAt
          rw [hg]
          exact List.mem_append_right _ (by simp [hd])
        simp only [Option.bind_some, h d this]
  unfold Yc at *
  rw [he, hw]
  exact hy
/-- The head, in the order of the text. -/
def headSeq (P : Program) (ops : Array Oper) (C : World → Prop) : List Oper → Act → Act → Prop
  | [], a, a' => a' = a
  | o :: l, a, a' => ∃ V, Yc P ops C o V a ∧ headSeq P ops C l (a.put o.dst V) a'
def dstOf (ops : Array Oper) (i : Nat) : Option Tmp := (ops[i]?).bind (·.dst)
/-- The frame, when the operations of S among the first k have been done. -/
def frOf (ops : Array Oper) (Vs : Nat → Value) (a : Act) (S : Nat → Bool) : Nat → Act
  | 0 => a
  | k + 1 => bif S k then (frOf ops Vs a S k).put (dstOf ops k) (Vs k) else frOf ops Vs a S k
variable {Vs : Nat → Value} {a : Act} {S : Nat → Bool}
theorem frOf_defers : ∀ k, (frOf ops Vs a S k).defers = a.defers
  | 0 => rfl
  | k + 1 => by
    unfold frOf
    cases S k
    · exact frOf_defers k
    · simp only [cond_true, Act.put]
      cases dstOf ops k <;> exact frOf_defers k
theorem put_size (x : Act) (d : Option Tmp) (V : Value) : (x.put d V).tmps.size = x.tmps.size := by
  cases d <;> simp [Act.put]
theorem put_get (x : Act) (e : Nat) (V : Value) (d : Nat) : (x.put (some e) V).tmps[d]? = if e = d then (if d < x.tmps.size then some V else none) else x.tmps[d]? := by
  simp only [Act.put, Array.getElem?_setIfInBounds]
  by_cases h : e = d
  · subst h; simp
  · simp [h]
theorem frOf_size : ∀ k, (frOf ops Vs a S k).tmps.size = a.tmps.size
  | 0 => rfl
  | k + 1 => by
    unfold frOf
    cases S k
    · exact frOf_size k
    · simp only [cond_true, put_size]; exact frOf_size k
theorem frOf_none {d : Nat} : ∀ k, (∀ i, i < k → S i = true → dstOf ops i ≠ some d) → (frOf ops Vs a S k).tmps[d]? = a.tmps[d]?
  | 0, _ => rfl
  | k + 1, h => by
    unfold frOf
    have ih := frOf_none k (fun i hi => h i (by omega))
    cases hs : S k
    · exact ih
    · simp only [cond_true]
      have := h k (by omega) hs
      cases hd : dstOf ops k with
      | none => exact ih
      | some e =>
        rw [put_get, if_neg (by rintro rfl; exact this hd)]
        exact ih
theorem frOf_some {d j : Nat} : ∀ k, j < k → S j = true → dstOf ops j = some d → (∀ i, i < k → i ≠ j → dstOf ops i ≠ some d) → (frOf ops Vs a S k).tmps[d]? = if d < a.tmps.size then some (Vs j) else none
  | 0, h, _, _, _ => by omega
  | k + 1, h, hs, hd, hu => by
    unfold frOf
    by_cases hjk : j = k
    · subst hjk
      simp only [hs, cond_true, hd]
      rw [put_get, if_pos rfl, frOf_size]
    · have ih := frOf_some k (by omega) hs hd (fun i hi => hu i (by omega))
      cases hs' : S k
      · exact ih
      · simp only [cond_true]
        have := hu k (by omega) (fun e => hjk e.symm)
        cases hd' : dstOf ops k with
        | none => exact ih
        | some e =>
          rw [put_get, if_neg (by rintro rfl; exact this hd')]
          exact ih
theorem frOf_congr {S' : Nat → Bool} : ∀ k, (∀ i, i < k → S i = S' i) → frOf ops Vs a S k = frOf ops Vs a S' k
  | 0, _ => rfl
  | k + 1, h => by
    unfold frOf
    rw [h k (by omega), frOf_congr k (fun i hi => h i (by omega))]
/-- What 'headB' says. -/
structure Head (ops : Array Oper) (F : List Nat) (n : Nat) : Prop where
  sel : Region.noSelect ops = true
  le : n ≤ ops.size
  back : ∀ j oj, ops[j]? = some oj → ∀ e ∈ oj.after, Region.binds .any e = true → e.on < j
  look : ∀ i j oj d, i < n → j < n → i ≠ j → ops[j]? = some oj → dstOf ops i = some d → d ∈ oj.looksAt ops → (i < j ∧ reachB ops ops.size j i = true) ∨ (j < i ∧ reachB ops ops.size i j = true)
  dst : ∀ i j d, i < n → j < n → i ≠ j → dstOf ops i = some d → dstOf ops j ≠ some d
  tail : ∀ t i, n ≤ t → t < ops.size → i < t → i ∉ F → reachB ops ops.size t i = true
  flt : ∀ i, i ∈ F → i < n
theorem headB_spec {F : List Nat} {n : Nat} (h : headB ops F n = true) : Head ops F n := by
  simp only [headB, Bool.and_eq_true, decide_eq_true_eq] at h
  obtain ⟨⟨⟨⟨⟨h1, h2⟩, h3⟩, h4⟩, h5⟩, h9⟩ := h
  have h4' : ∀ i j oj d, i < n → j < n → i ≠ j → ops[j]? = some oj → dstOf ops i = some d → (d ∉ oj.looksAt ops ∨ (i < j ∧ reachB ops ops.size j i = true) ∨ (j < i ∧ reachB ops ops.size i j = true)) ∧ oj.dst ≠ some d := by
    intro i j oj d hi hj hij ho hd
    have h6 := List.all_eq_true.1 h4 j (List.mem_range.2 hj)
    rw [ho] at h6
    have h7 := List.all_eq_true.1 h6 i (List.mem_range.2 hi)
    unfold dstOf at hd
    rw [hd] at h7
    simp only [Bool.or_eq_true, Bool.and_eq_true, Bool.not_eq_true', Nat.beq_eq, Nat.blt_eq] at h7
    rcases h7 with h7 | ⟨h7, h8⟩
    · exact absurd h7 hij
    · refine ⟨?_, ?_⟩
      · rcases h7 with (h7 | h7) | h7
        · exact .inl (by simpa using h7)
        · exact .inr (.inl h7)
        · exact .inr (.inr h7)
      · intro e
        rw [e] at h8
        simp at h8
  refine ⟨h1, h2, fun j oj ho e he hb => ?_, fun i j oj d hi hj hij ho hd hl => ?_, fun i j d hi hj hij hd hd' => ?_, fun t i ht hts hit hiF => ?_, fun i hi => by simpa [Nat.blt_eq] using List.all_eq_true.1 h9 i hi⟩
  · have hj : j < ops.size := (Array.getElem?_eq_some_iff.1 ho).1
    have h6 := List.all_eq_true.1 h3 j (List.mem_range.2 hj)
    rw [ho] at h6
    have h7 := Array.all_eq_true_iff_forall_mem.1 h6 e he
    simp only [hb, Bool.not_true, Bool.false_or, Nat.blt_eq] at h7
    exact h7
  · rcases (h4' i j oj d hi hj hij ho hd).1 with h | h
    · exact absurd hl h
    · exact h
  · unfold dstOf at hd'
    rw [Option.bind_eq_some_iff] at hd'
    obtain ⟨oj, ho, hdj⟩ := hd'
    exact (h4' i j oj d hi hj hij ho hd).2 hdj
  · have h6 := List.all_eq_true.1 h5 (t - n) (List.mem_range.2 (by omega))
    have h7 := List.all_eq_true.1 h6 i (List.mem_range.2 (by omega))
    rw [show n + (t - n) = t by omega] at h7
    simp only [Bool.or_eq_true, List.contains_iff_mem] at h7
    exact h7.resolve_left hiF
/-- A set of operations that have come up. -/
structure Listed (ops : Array Oper) (L : Array Bool) : Prop where
  size : L.size = ops.size
  closed : ∀ j oj, ops[j]? = some oj → L.getD j false = true → ∀ e ∈ oj.after, Region.binds .any e = true → L.getD e.on false = true
theorem getD_eq {L : Array Bool} {i : Nat} (h : i < L.size) (b c : Bool) : L.getD i b = L.getD i c := by
  simp [h]
theorem Listed.reach {L : Array Bool} (h : Listed ops L) : ∀ (f j i : Nat), reachB ops f j i = true → (∀ oj, ops[j]? = some oj → ∀ e ∈ oj.after, Region.binds .any e = true → L.getD e.on false = true) → L.getD i false = true
  | 0, j, i, hr, _ => by simp [reachB] at hr
  | f + 1, j, i, hr, hj => by
    simp only [reachB] at hr
    cases ho : ops[j]? with
    | none => simp [ho] at hr
    | some oj =>
      simp only [ho] at hr
      rw [← Array.any_toList, List.any_eq_true] at hr
      obtain ⟨e, he, hb⟩ := hr
      rw [Array.mem_toList_iff] at he
      simp only [Bool.and_eq_true, Bool.or_eq_true, Nat.beq_eq] at hb
      obtain ⟨hb1, hb2⟩ := hb
      have hl := hj oj ho e he hb1
      rcases hb2 with rfl | hb2
      · exact hl
      · exact h.reach f e.on i hb2 (fun oe hoe => h.closed e.on oe hoe hl)
theorem Listed.set {L : Array Bool} (h : Listed ops L) {j : Nat} {oj : Oper} (ho : ops[j]? = some oj) (hj : ∀ e ∈ oj.after, Region.binds .any e = true → L.getD e.on false = true) : Listed ops (L.setIfInBounds j true) := by
  refine ⟨by simp [h.size], fun k ok hk hkl e he hb => ?_⟩
  have mono : ∀ i, L.getD i false = true → (L.setIfInBounds j true).getD i false = true := by
    intro i hi
    simp only [Array.getD_eq_getD_getElem?, Array.getElem?_setIfInBounds] at hi ⊢
    by_cases hji : j = i
    · subst hji
      have : j < L.size := by
        rcases Nat.lt_or_ge j L.size with h' | h'
        · exact h'
        · simp [Array.getElem?_eq_none h'] at hi
      simp [this]
    · simp [hji]; simpa using hi
  apply mono
  by_cases hkj : j = k
  · subst hkj
    rw [ho] at hk
    simp at hk
    subst hk
    exact hj e he hb
  · refine h.closed k ok hk ?_ e he hb
    simp only [Array.getD_eq_getD_getElem?, Array.getElem?_setIfInBounds, if_neg hkj] at hkl ⊢
    exact hkl
theorem getD_set {L : Array Bool} {j i : Nat} (hj : j < L.size) : (L.setIfInBounds j true).getD i false = (decide (j = i) || L.getD i false) := by
  simp only [Array.getD_eq_getD_getElem?, Array.getElem?_setIfInBounds]
  by_cases h : j = i
  · subst h; simp [hj]
  · simp [h]
def un (L : Array Bool) : Nat → Nat
  | 0 => 0
  | k + 1 => un L k + bif L.getD k false then 0 else 1
theorem un_set {L : Array Bool} {j : Nat} (hj : j < L.size) (hu : L.getD j false = false) : ∀ k, un (L.setIfInBounds j true) k + (if j < k then 1 else 0) = un L k
  | 0 => by simp [un]
  | k + 1 => by
    have ih := un_set hj hu k
    simp only [un, getD_set hj]
    by_cases h : j = k
    · subst h
      simp only [decide_true, Bool.true_or, cond_true, hu, cond_false]
      simp at ih
      simp
      omega
    · simp only [decide_eq_false h, Bool.false_or]
      by_cases h2 : j < k
      · rw [if_pos h2] at ih; rw [if_pos (by omega)]; omega
      · rw [if_neg h2] at ih; rw [if_neg (by omega)]; omega
theorem un_zero {L : Array Bool} : ∀ k, un L k = 0 → ∀ i, i < k → L.getD i false = true
  | 0, _, i, hi => by omega
  | k + 1, h, i, hi => by
    simp only [un] at h
    by_cases hik : i = k
    · subst hik
      cases hl : L.getD i false
      · simp [hl] at h
      · rfl
    · exact un_zero k (by omega) i (by omega)
theorem un_pos {L : Array Bool} : ∀ k, un L k ≠ 0 → ∃ i, i < k ∧ L.getD i false = false ∧ ∀ i', i' < i → L.getD i' false = true
  | 0, h => by simp [un] at h
  | k + 1, h => by
    by_cases hk : un L k = 0
    · refine ⟨k, by omega, ?_, un_zero k hk⟩
      simp only [un, hk] at h
      cases hl : L.getD k false
      · rfl
      · simp [hl] at h
    · obtain ⟨i, h1, h2, h3⟩ := un_pos k hk
      exact ⟨i, by omega, h2, h3⟩
/-- The tail, one after another. -/
theorem tail_seq {F : List Nat} {n : Nat} (hh : Head ops F n) : ∀ (m k : Nat) (L : Array Bool) (a : Act) (w : World), ops.size - k = m → n ≤ k → k ≤ ops.size → Listed ops L → (∀ i, i < k → L.getD i false = true) → (∀ i, k ≤ i → L.getD i false = false) →
    wpList P ops Q (ops.toList.drop k) a w → wpAny P .any ops Q m L a w
  | 0, k, L, a, w, hm, hn, hk, hL, h1, h2, h => by
    have hks : k = ops.size := by omega
    have hr : Region.ready .any ops L = [] := by
      rw [List.eq_nil_iff_forall_not_mem]
      intro j hj
      obtain ⟨hu, o, ho, _⟩ := mem_ready.1 hj
      have hjs : j < ops.size := (Array.getElem?_eq_some_iff.1 ho).1
      have := h1 j (by omega)
      rw [getD_eq (by rw [hL.size]; exact hjs) true false, this] at hu
      cases hu
    refine ⟨hr, ?_⟩
    have : ops.toList.drop k = [] := by rw [List.drop_eq_nil_iff]; simp; omega
    rw [this] at h
    exact h
  | m + 1, k, L, a, w, hm, hn, hk, hL, h1, h2, h => by
    have hks : k < ops.size := by omega
    have ho : ops[k]? = some ops[k] := by simp [hks]
    have hedge : ∀ e ∈ ops[k].after, Region.binds .any e = true → L.getD e.on false = true := fun e he hb => h1 _ (hh.back k _ ho e he hb)
    have hkr : k ∈ Region.ready .any ops L := mem_ready.2 ⟨by rw [getD_eq (by rw [hL.size]; exact hks) true false]; exact h2 k (Nat.le_refl _), _, ho, hedge⟩
    have hdrop : ops.toList.drop k = ops[k] :: ops.toList.drop (k + 1) := by
      rw [List.drop_eq_getElem_cons (by simpa using hks)]
      simp
    rw [hdrop] at h
    refine ⟨fun h0 => (by rw [h0] at hkr; cases hkr), fun j hj => ?_⟩
    obtain ⟨hu, oj, hoj, hall⟩ := mem_ready.1 hj
    have hjs : j < ops.size := (Array.getElem?_eq_some_iff.1 hoj).1
    rw [getD_eq (by rw [hL.size]; exact hjs) true false] at hu
    have hjk : j = k := by
      rcases Nat.lt_trichotomy j k with hlt | heq | hgt
      · rw [h1 j hlt] at hu; cases hu
      · exact heq
      · have := hL.reach ops.size j k (hh.tail j k (by omega) hjs hgt (fun hF => by have := hh.flt k hF; omega)) (fun oj' ho' => by rw [hoj] at ho'; simp at ho'; subst ho'; exact hall)
        rw [h2 k (Nat.le_refl _)] at this; cases this
    subst hjk
    have hw : wpOp P ops Q j (wpList P ops Q (ops.toList.drop (j + 1))) a w := by
      unfold wpOp; simp only [ho]; exact h
    refine wpOp_mono (fun a' w' h' => tail_seq hh m (j + 1) _ a' w' (by omega) (by omega) (by omega) (hL.set ho hedge) (fun i hi => ?_) (fun i hi => ?_) h') hw
    · rw [getD_set (by rw [hL.size]; exact hks)]
      by_cases hij : j = i
      · simp [hij]
      · rw [h1 i (by omega)]; simp
    · rw [getD_set (by rw [hL.size]; exact hks), h2 i (by omega)]
      have : ¬ j = i := by omega
      simp [this]
theorem act_ext {x y : Act} (h1 : x.tmps.size = y.tmps.size) (h2 : ∀ d : Nat, x.tmps[d]? = y.tmps[d]?) (h3 : x.defers = y.defers) : x = y := by
  obtain ⟨xt, xd⟩ := x
  obtain ⟨yt, yd⟩ := y
  simp only at h1 h2 h3
  subst h3
  congr 1
  exact Array.ext_getElem? h2
theorem tmp_congr {x y : Act} {t : Tmp} (h : x.tmps[t]? = y.tmps[t]?) : x.eval (.tmp t) = y.eval (.tmp t) := by
  simp only [Act.eval, Array.getD_eq_getD_getElem?, h]
/-- Where the operands are the same, it yields, whatever the world. -/
def PureAt (P : Program) (ops : Array Oper) (i : Nat) (a' : Act) : Prop :=
  ∃ oi, ops[i]? = some oi ∧ ∀ b : Act, (∀ x ∈ oi.op.operands, b.eval x = a'.eval x) → ∃ V, ∀ w, (execOp b.eval oi).run P w = .ok (.value V) w
/-- What 'floatB' says. -/
theorem floatB_spec {i : Nat} (h : floatB ops i = true) : ∃ oi, ops[i]? = some oi ∧ oi.guard = none ∧ (∀ t, Operand.tmp t ∈ oi.op.operands → ∀ j, i ≤ j → dstOf ops j ≠ some t) ∧ Region.free .any ops ((List.range ops.size).map fun j => Nat.blt j i).toArray i = true := by
  unfold floatB at h
  split at h
  case h_2 => cases h
  rename_i d op ty pos af ho
  simp only [Bool.and_eq_true] at h
  obtain ⟨⟨h1, h2⟩, h3⟩ := h
  refine ⟨_, ho, rfl, fun t ht j hij hj => ?_, h3⟩
  have h4 := List.all_eq_true.1 h2 (.tmp t) (by simpa using ht)
  simp only at h4
  have hjs : j < ops.size := by
    unfold dstOf at hj
    rw [Option.bind_eq_some_iff] at hj
    obtain ⟨oj, hoj, _⟩ := hj
    exact (Array.getElem?_eq_some_iff.1 hoj).1
  have h5 := List.all_eq_true.1 h4 (j - i) (List.mem_range.2 (by omega))
  rw [show i + (j - i) = j by omega] at h5
  unfold dstOf at hj
  rw [hj] at h5
  simp at h5
theorem free_mono {L : Array Bool} (hL : L.size = ops.size) {i : Nat} (hb : ∀ j, j < i → L.getD j false = true) (h : Region.free .any ops ((List.range ops.size).map fun j => Nat.blt j i).toArray i = true) : Region.free .any ops L i = true := by
  unfold Region.free at h ⊢
  cases ho : ops[i]? with
  | none => rw [ho] at h; exact h
  | some oi =>
    rw [ho] at h
    simp only [List.all_eq_true, List.mem_range] at h ⊢
    intro j hj
    have h1 := h j hj
    by_cases hji : j < i
    · have h2 := hb j hji
      rw [getD_eq (by rw [hL]; exact hj) false true] at h2
      rw [h2]; simp
    · have h2 : ((List.range ops.size).map fun j => Nat.blt j i).toArray.getD j true = false := by
        simp only [Array.getD_eq_getD_getElem?, List.getElem?_toArray, List.getElem?_map, List.getElem?_range hj, Option.map_some, Option.getD_some]
        cases hbl : Nat.blt j i
        · rfl
        · exact absurd (Nat.blt_eq.mp hbl) hji
      rw [h2, Bool.or_false] at h1
      simp only [Bool.or_eq_true] at h1 ⊢
      rcases h1 with h1 | h1
      · exact .inl (.inl h1)
      · exact .inr h1
theorem head_any {F : List Nat} {n : Nat} (hh : Head ops F n) {a : Act} (hQ : F = [] ∨ ∀ c a w, ¬ Q (.panic c) a w) (hFl : ∀ i ∈ F, floatB ops i = true) (hPu : ∀ i ∈ F, PureAt P ops i (frOf ops Vs a (fun _ => true) n)) (hy : ∀ j oj, j < n → ops[j]? = some oj → Yc P ops C oj (Vs j) (frOf ops Vs a (fun _ => true) j))
    (htail : ∀ w', C w' → wpList P ops Q (ops.toList.drop n) (frOf ops Vs a (fun _ => true) n) w') :
    ∀ (m : Nat) (L : Array Bool) (w : World), un L n = m → Listed ops L → (∀ i, n ≤ i → L.getD i false = false) → C w → wpAny P .any ops Q (m + (ops.size - n)) L (frOf ops Vs a (fun i => L.getD i false) n) w
  | 0, L, w, hm, hL, ht, hC => by
    have hall := un_zero n hm
    rw [frOf_congr (S' := fun _ => true) n (fun i hi => hall i hi), Nat.zero_add]
    exact tail_seq hh _ n L _ w rfl (Nat.le_refl _) hh.le hL hall ht (htail w hC)
  | m + 1, L, w, hm, hL, ht, hC => by
    rw [show m + 1 + (ops.size - n) = (m + (ops.size - n)) + 1 by omega]
    obtain ⟨i0, hi0, hu0, hb0⟩ := un_pos (L := L) n (by omega)
    have hi0s : i0 < ops.size := Nat.lt_of_lt_of_le hi0 hh.le
    have ho0 : ops[i0]? = some ops[i0] := by simp [hi0s]
    have hr0 : i0 ∈ Region.ready .any ops L := mem_ready.2 ⟨by rw [getD_eq (by rw [hL.size]; exact hi0s) true false]; exact hu0, _, ho0, fun e he hb => hb0 _ (hh.back i0 _ ho0 e he hb)⟩
    have hsel := Region.noSelect_spec hh.sel
    have hcongr : ∀ j oj, j < n → ops[j]? = some oj → L.getD j false = false → (∀ e ∈ oj.after, Region.binds .any e = true → L.getD e.on false = true) → Yc P ops C oj (Vs j) (frOf ops Vs a (fun i => L.getD i false) n) := by
      intro j oj hjn hoj hu hall
      have hedge : ∀ oj', ops[j]? = some oj' → ∀ e ∈ oj'.after, Region.binds .any e = true → L.getD e.on false = true := fun oj' ho' => by rw [hoj] at ho'; simp at ho'; subst ho'; exact hall
      have hyj := hy j oj hjn hoj
      refine hyj.congr (fun cs b => hsel j oj cs b hoj) (fun d hd => ?_)
      by_cases hex : ∃ i, i < n ∧ dstOf ops i = some d
      · obtain ⟨i, hin, hid⟩ := hex
        have huniq : ∀ k, k < n → k ≠ i → dstOf ops k ≠ some d := fun k hk hki => hh.dst i k d hin hk (Ne.symm hki) hid
        by_cases hij : i = j
        · subst hij
          rw [frOf_none n (fun k hk hS hkd => ?_), frOf_none i (fun k hk _ hkd => huniq k (by omega) (by omega) hkd)]
          by_cases hki : k = i
          · subst hki; rw [hu] at hS; cases hS
          · exact huniq k hk hki hkd
        · rcases hh.look i j oj d hin hjn hij hoj hid hd with ⟨hlt, hr⟩ | ⟨hlt, hr⟩
          · have hiL := hL.reach ops.size j i hr hedge
            rw [frOf_some n hin hiL hid (fun k hk hki => huniq k hk hki), frOf_some j hlt rfl hid (fun k hk hki => huniq k (by omega) hki)]
          · have hiL : L.getD i false = false := by
              cases hil : L.getD i false
              · rfl
              · have := hL.reach ops.size i j hr (fun oi hoi => hL.closed i oi hoi hil)
                rw [hu] at this; cases this
            rw [frOf_none n (fun k hk hS hkd => ?_), frOf_none j (fun k hk _ hkd => huniq k (by omega) (by omega) hkd)]
            by_cases hki : k = i
            · subst hki; rw [hiL] at hS; cases hS
            · exact huniq k hk hki hkd
      · rw [frOf_none n (fun k hk _ hkd => hex ⟨k, hk, hkd⟩), frOf_none j (fun k hk _ hkd => hex ⟨k, by omega, hkd⟩)]
    have hputs : ∀ j oj, j < n → ops[j]? = some oj → L.getD j false = false → (frOf ops Vs a (fun i => L.getD i false) n).put oj.dst (Vs j) = frOf ops Vs a (fun i => (L.setIfInBounds j true).getD i false) n := by
      intro j oj hjn hoj hu
      have hjL : j < L.size := by rw [hL.size]; exact (Array.getElem?_eq_some_iff.1 hoj).1
      have hdj : dstOf ops j = oj.dst := by simp [dstOf, hoj]
      refine act_ext (by rw [put_size, frOf_size, frOf_size]) (fun d => ?_) ?_
      · by_cases hex : ∃ i, i < n ∧ dstOf ops i = some d
        · obtain ⟨i, hin, hid⟩ := hex
          have huniq : ∀ k, k < n → k ≠ i → dstOf ops k ≠ some d := fun k hk hki => hh.dst i k d hin hk (Ne.symm hki) hid
          by_cases hij : i = j
          · subst hij
            rw [← hdj, hid, put_get, if_pos rfl, frOf_size, frOf_some n hin (by rw [getD_set hjL]; simp) hid huniq]
          · have hne : oj.dst ≠ some d := by rw [← hdj]; exact huniq j hjn (Ne.symm hij)
            have hleft : ((frOf ops Vs a (fun i => L.getD i false) n).put oj.dst (Vs j)).tmps[d]? = (frOf ops Vs a (fun i => L.getD i false) n).tmps[d]? := by
              cases he : oj.dst with
              | none => rfl
              | some e => rw [put_get, if_neg (by rintro rfl; exact hne he)]
            rw [hleft]
            have hji : ¬ j = i := Ne.symm hij
            cases hil : L.getD i false
            · rw [frOf_none n (fun k hk hS hkd => ?_), frOf_none n (fun k hk hS hkd => ?_)]
              · by_cases hki : k = i
                · subst hki; rw [getD_set hjL, hil] at hS; simp [hji] at hS
                · exact huniq k hk hki hkd
              · by_cases hki : k = i
                · subst hki; rw [hil] at hS; cases hS
                · exact huniq k hk hki hkd
            · rw [frOf_some n hin hil hid huniq, frOf_some n hin (by rw [getD_set hjL, hil]; simp) hid huniq]
        · have hne : oj.dst ≠ some d := by rw [← hdj]; exact fun h => hex ⟨j, hjn, h⟩
          have hleft : ((frOf ops Vs a (fun i => L.getD i false) n).put oj.dst (Vs j)).tmps[d]? = (frOf ops Vs a (fun i => L.getD i false) n).tmps[d]? := by
            cases he : oj.dst with
            | none => rfl
            | some e => rw [put_get, if_neg (by rintro rfl; exact hne he)]
          rw [hleft, frOf_none n (fun k hk _ hkd => hex ⟨k, hk, hkd⟩), frOf_none n (fun k hk _ hkd => hex ⟨k, hk, hkd⟩)]
      · rw [frOf_defers]
        cases oj.dst <;> exact frOf_defers n
    have hnext : ∀ j oj w', j < n → ops[j]? = some oj → L.getD j false = false → (∀ e ∈ oj.after, Region.binds .any e = true → L.getD e.on false = true) → C w' → wpAny P .any ops Q (m + (ops.size - n)) (L.setIfInBounds j true) ((frOf ops Vs a (fun i => L.getD i false) n).put oj.dst (Vs j)) w' := by
      intro j oj w' hjn hoj hu hall hC'
      have hjL : j < L.size := by rw [hL.size]; exact (Array.getElem?_eq_some_iff.1 hoj).1
      rw [hputs j oj hjn hoj hu]
      have hun := un_set hjL hu n
      rw [if_pos hjn] at hun
      refine head_any hh hQ hFl hPu hy htail m _ w' (by omega) (hL.set hoj hall) (fun i hi => ?_) hC'
      rw [getD_set hjL, ht i hi]
      have : ¬ j = i := by omega
      simp [this]
    have hall0 : ∀ e ∈ ops[i0].after, Region.binds .any e = true → L.getD e.on false = true := fun e he hb => hb0 _ (hh.back i0 _ ho0 e he hb)
    by_cases hiF : i0 ∈ F
    · obtain ⟨oi, hoi, hg, hnt, hfree⟩ := floatB_spec (hFl i0 hiF)
      rw [ho0] at hoi
      injection hoi with hoi
      have hyc := hcongr i0 _ hi0 ho0 hu0 hall0
      obtain ⟨oi', hoi', hp⟩ := hPu i0 hiF
      rw [ho0] at hoi'
      injection hoi' with hoi'
      subst hoi'
      obtain ⟨V, hV⟩ := hp (frOf ops Vs a (fun i => L.getD i false) n) (fun x hx => by
        cases x with
        | tmp t =>
          have hx' : Operand.tmp t ∈ oi.op.operands := by rw [← hoi]; exact hx
          refine tmp_congr ?_
          by_cases hex : ∃ k, k < n ∧ dstOf ops k = some t
          · obtain ⟨k, hkn, hkt⟩ := hex
            have hki : k < i0 := by
              rcases Nat.lt_or_ge k i0 with h | h
              · exact h
              · exact absurd hkt (hnt t hx' k h)
            have huniq : ∀ k', k' < n → k' ≠ k → dstOf ops k' ≠ some t := fun k' hk' hne => hh.dst k k' t hkn hk' (Ne.symm hne) hkt
            rw [frOf_some n hkn (hb0 k hki) hkt huniq, frOf_some n hkn rfl hkt huniq]
          · rw [frOf_none n (fun k hk _ hkd => hex ⟨k, hk, hkd⟩), frOf_none n (fun k hk _ hkd => hex ⟨k, hk, hkd⟩)]
        | _ => rfl)
      have hVs : V = Vs i0 := by
        rcases hyc with ⟨_, hv⟩ | ⟨hw, _⟩
        · rcases hv w hC with ⟨w', h1, _⟩ | ⟨f, args, h1, _⟩
          · rw [hV w] at h1
            injection h1 with h1 _
            injection h1
          · rw [hV w] at h1
            injection h1 with h1 _
            cases h1
        · rw [hoi] at hw
          simp [Region.wanted, hg] at hw
      subst hVs
      refine wpAny_take (v := Vs i0) ho0 hh.sel (free_mono hL.size hb0 hfree) (by simpa using hr0) (fun c a w hq => ?_) (.inl ⟨by rw [hoi]; simp [Region.wanted, hg], hV⟩) (hnext i0 _ w hi0 ho0 hu0 hall0 hC)
      rcases hQ with h | h
      · rw [h] at hiF; cases hiF
      · exact (h _ _ _ hq).elim
    · refine ⟨fun h0 => (by rw [h0] at hr0; cases hr0), fun j hj => ?_⟩
      obtain ⟨hu, oj, hoj, hall⟩ := mem_ready.1 hj
      have hjs : j < ops.size := (Array.getElem?_eq_some_iff.1 hoj).1
      have hjL : j < L.size := by rw [hL.size]; exact hjs
      rw [getD_eq hjL true false] at hu
      have hedge : ∀ oj', ops[j]? = some oj' → ∀ e ∈ oj'.after, Region.binds .any e = true → L.getD e.on false = true := fun oj' ho' => by rw [hoj] at ho'; simp at ho'; subst ho'; exact hall
      have hjn : j < n := by
        rcases Nat.lt_or_ge j n with h | h
        · exact h
        · have := hL.reach ops.size j i0 (hh.tail j i0 h hjs (by omega) hiF) hedge
          rw [hu0] at this; cases this
      exact (hcongr j oj hjn hoj hu hall).wpOp hoj hC (fun w' hC' => hnext j oj w' hjn hoj hu hall hC')
theorem headSeq_vals : ∀ (l : List Oper) (k : Nat) (a a' : Act), (∀ i, l[i]? = ops[k + i]? ∨ l.length ≤ i) → headSeq P ops C l a a' →
    ∃ Vs : Nat → Value, (∀ i oi, l[i]? = some oi → Yc P ops C oi (Vs i) (frOf (ops.extract k ops.size) Vs a (fun _ => true) i)) ∧ a' = frOf (ops.extract k ops.size) Vs a (fun _ => true) l.length
  | [], k, a, a', _, h => ⟨fun _ => undef, fun i oi hi => by simp at hi, h⟩
  | o :: l, k, a, a', hl, h => by
    obtain ⟨V, h1, h2⟩ := h
    have h0 : ops[k]? = some o := by
      rcases hl 0 with h | h
      · simpa using h.symm
      · simp at h
    have hks : k < ops.size := (Array.getElem?_eq_some_iff.1 h0).1
    obtain ⟨Vs, h3, h4⟩ := headSeq_vals l (k + 1) (a.put o.dst V) a' (fun i => by
      rcases hl (i + 1) with h | h
      · left; rw [show k + 1 + i = k + (i + 1) by omega]; simpa using h
      · right; simpa using h) h2
    have hd0 : dstOf (ops.extract k ops.size) 0 = o.dst := by
      have h01 : ops[k] = o := (Array.getElem?_eq_some_iff.1 h0).2
      have h02 : 0 < ops.size - k := by omega
      simp [dstOf, h01, h02]
    have hds : ∀ i, dstOf (ops.extract k ops.size) (i + 1) = dstOf (ops.extract (k + 1) ops.size) i := by
      intro i
      simp only [dstOf, Array.getElem?_extract]
      congr 1
      by_cases hi : i + 1 < min ops.size ops.size - k
      · rw [if_pos hi, if_pos (by omega)]; congr 1; omega
      · rw [if_neg hi, if_neg (by omega)]
    let Ws : Nat → Value := fun i => match i with | 0 => V | i + 1 => Vs i
    have hfr : ∀ i, frOf (ops.extract k ops.size) Ws a (fun _ => true) (i + 1) = frOf (ops.extract (k + 1) ops.size) Vs (a.put o.dst V) (fun _ => true) i := by
      intro i
      induction i with
      | zero => simp only [frOf, cond_true, hd0]; rfl
      | succ i ih =>
        rw [frOf, ih, frOf]
        simp only [cond_true, hds]; rfl
    refine ⟨Ws, fun i oi hi => ?_, ?_⟩
    · cases i with
      | zero =>
        simp at hi
        subst hi
        exact h1
      | succ i =>
        rw [hfr]
        exact h3 i oi (by simpa using hi)
    · rw [h4]; exact (hfr l.length).symm
/-- THE LAW. -/
theorem region_head {id n : Nat} {F : List Nat} {a a' : Act} {w : World} (hm : P.follows .mixedOrders = true) (hB : headB ops F n = true) (hF : ∀ i ∈ F, floatB ops i = true) (hP : ∀ i ∈ F, PureAt P ops i a') (hQ : F = [] ∨ ∀ c a w, ¬ Q (.panic c) a w)
    (hseq : headSeq P ops C (ops.toList.take n) a a') (hC : C { w with drawn := w.drawn + 1 })
    (htail : ∀ w', C w' → wpList P ops Q (ops.toList.drop n) a' w') : (Code.region id ops true).wp P Q a w := by
  have hh := headB_spec hB
  have hlen : (ops.toList.take n).length = n := by have := hh.le; simp; omega
  obtain ⟨Vs, h1, h2⟩ := headSeq_vals (ops.toList.take n) 0 a a' (fun i => by
    by_cases hi : i < n
    · left; rw [List.getElem?_take, if_pos hi, Nat.zero_add, Array.getElem?_toList]
    · right; rw [hlen]; omega) hseq
  have hex : ops.extract 0 ops.size = ops := by simp
  rw [hex] at h1 h2
  rw [hlen] at h2
  subst h2
  refine wp_region_any hm ?_
  have hy : ∀ j oj, j < n → ops[j]? = some oj → Yc P ops C oj (Vs j) (frOf ops Vs a (fun _ => true) j) := fun j oj hj ho => h1 j oj (by rw [List.getElem?_take, if_pos hj, Array.getElem?_toList]; exact ho)
  have hfr0 : frOf ops Vs a (fun i => (Array.replicate ops.size false).getD i false) n = a := by
    refine act_ext (frOf_size n) (fun d => frOf_none n (fun i _ hS => ?_)) (frOf_defers n)
    simp only [getD_replicate_false] at hS
    cases hS
  have hL0 : Listed ops (Array.replicate ops.size false) := ⟨by simp, fun j oj _ hl => by rw [getD_replicate_false] at hl; cases hl⟩
  have hun0 : ∀ k, un (Array.replicate ops.size false) k = k := by
    intro k
    induction k with
    | zero => rfl
    | succ k ih => rw [un, ih, getD_replicate_false]; rfl
  have h3 := head_any (Q := Q) hh (C := C) (Vs := Vs) (a := a) hQ hF hP hy htail n (Array.replicate ops.size false) _ (hun0 n) hL0 (fun i _ => getD_replicate_false _ i) hC
  rw [hfr0, show n + (ops.size - n) = ops.size by have := hh.le; omega] at h3
  exact h3
end
end Go.Proofs.YtancmkdmlghlpaaGreatDoor.Ev
