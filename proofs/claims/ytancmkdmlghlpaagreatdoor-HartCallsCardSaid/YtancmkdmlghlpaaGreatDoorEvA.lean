/- What values and blocks stand for: laws. No statement is proved here. -/
import Derived.Test.YtancmkdmlghlpaaGreatDoorEvDefs
namespace Go.Proofs.YtancmkdmlghlpaaGreatDoor.Ev
open Go

mutual
theorem SV.eq_of_eqb : ∀ {x y : SV}, x.eqb y = true → x = y
  | .int .., y, h => by cases y <;> simp [SV.eqb, kindEq] at h; obtain ⟨rfl, h⟩ := h; rw [E.eq_of_eqb h]
  | .bool .., y, h => by cases y <;> simp [SV.eqb] at h; rw [E.eq_of_eqb h]
  | .ptr .., y, h => by cases y <;> simp [SV.eqb] at h; obtain ⟨rfl, rfl⟩ := h; rfl
  | .ptrx .., y, h => by cases y <;> simp [SV.eqb] at h; obtain ⟨⟨⟨⟨rfl, rfl⟩, rfl⟩, rfl⟩, h⟩ := h; rw [E.eq_of_eqb h]
  | .ptra .., y, h => by cases y <;> simp [SV.eqb] at h; obtain ⟨⟨rfl, rfl⟩, h⟩ := h; rw [E.eq_of_eqb h]
  | .nilp, y, h => by cases y <;> simp [SV.eqb] at h; rfl
  | .slice .., y, h => by cases y <;> simp [SV.eqb] at h; obtain ⟨⟨⟨rfl, rfl⟩, rfl⟩, rfl⟩ := h; rfl
  | .slicec .., y, h => by cases y <;> simp [SV.eqb] at h; obtain ⟨⟨rfl, rfl⟩, h⟩ := h; rw [E.eq_of_eqb h]
  | .slicex .., y, h => by cases y <;> simp [SV.eqb] at h; obtain ⟨⟨⟨rfl, rfl⟩, h1⟩, h2⟩ := h; rw [E.eq_of_eqb h1, E.eq_of_eqb h2]
  | .nilslice, y, h => by cases y <;> simp [SV.eqb] at h; rfl
  | .str .., y, h => by cases y <;> simp [SV.eqb] at h; subst h; rfl
  | .agg l, y, h => by cases y <;> simp [SV.eqb] at h; rw [SV.eq_of_eqbL h]
  | .tuple l, y, h => by cases y <;> simp [SV.eqb] at h
  | .func .., y, h => by cases y <;> simp [SV.eqb] at h; obtain ⟨⟨rfl, h1⟩, h2⟩ := h; rw [SV.eq_of_eqbL h1, SV.eq_of_eqbL h2]
  | .nilFunc, y, h => by cases y <;> simp [SV.eqb] at h; rfl
  | .nilIface, y, h => by cases y <;> simp [SV.eqb] at h; rfl
  | .iface .., y, h => by cases y <;> simp [SV.eqb] at h; obtain ⟨rfl, h⟩ := h; rw [SV.eq_of_eqb h]
  | .nilmap, y, h => by cases y <;> simp [SV.eqb] at h; rfl
  | .opq .., y, h => by cases y <;> simp [SV.eqb] at h; subst h; rfl
  | .any, y, h => by cases y <;> simp [SV.eqb] at h
theorem SV.eq_of_eqbL : ∀ {l m : List SV}, SV.eqbL l m = true → l = m
  | [], m, h => by cases m <;> simp [SV.eqbL] at h; rfl
  | x :: l, m, h => by
    cases m <;> simp [SV.eqbL] at h
    obtain ⟨h1, h2⟩ := h
    rw [SV.eq_of_eqb h1, SV.eq_of_eqbL h2]
end
theorem upsEqb_eq : ∀ {l m : List (E × E)}, upsEqb l m = true → l = m
  | [], m, h => by cases m <;> simp [upsEqb] at h; rfl
  | (a, b) :: l, m, h => by
    cases m with
    | nil => simp [upsEqb] at h
    | cons x m =>
      obtain ⟨c, d⟩ := x
      simp [upsEqb] at h
      obtain ⟨⟨h1, h2⟩, h3⟩ := h
      rw [E.eq_of_eqb h1, E.eq_of_eqb h2, upsEqb_eq h3]
theorem Blk.eq_of_eqb {a b : Blk} (h : a.eqb b = true) : a = b := by
  cases a <;> cases b <;> simp [Blk.eqb, kindEq] at h
  · obtain ⟨rfl, h⟩ := h; rw [SV.eq_of_eqbL h]
  · obtain ⟨⟨⟨⟨rfl, h1⟩, rfl⟩, h2⟩, rfl⟩ := h; rw [E.eq_of_eqb h1, upsEqb_eq h2]
  · rfl
theorem stEqb_eq : ∀ {l m : St}, stEqb l m = true → l = m
  | [], m, h => by cases m <;> simp [stEqb] at h; rfl
  | x :: l, m, h => by
    cases m <;> simp [stEqb] at h
    obtain ⟨h1, h2⟩ := h
    rw [Blk.eq_of_eqb h1, stEqb_eq h2]

/-! ### values -/
theorem get_ext {ρ ns : Rho} {n : Nat} {b : Nat × Nat} (h : ρ[n]? = some b) : (ρ ++ ns)[n]? = some b := by
  have := (List.getElem?_eq_some_iff.1 h).1
  rw [List.getElem?_append_left this]; exact h
mutual
theorem SV.den_ext {ρ ns : Rho} {v : Env} : ∀ {x : SV} {V : Value}, x.den ρ v = some V → x.den (ρ ++ ns) v = some V
  | .int .., V, h => h
  | .bool .., V, h => h
  | .ptr .., V, h => by simp only [SV.den, Option.map_eq_some_iff] at h ⊢; obtain ⟨b, h, rfl⟩ := h; exact ⟨b, get_ext h, rfl⟩
  | .ptrx .., V, h => by simp only [SV.den, Option.map_eq_some_iff] at h ⊢; obtain ⟨b, h, rfl⟩ := h; exact ⟨b, get_ext h, rfl⟩
  | .ptra .., V, h => by simp only [SV.den, Option.map_eq_some_iff] at h ⊢; obtain ⟨b, h, rfl⟩ := h; exact ⟨b, get_ext h, rfl⟩
  | .nilp, V, h => h
  | .slice .., V, h => by simp only [SV.den, Option.map_eq_some_iff] at h ⊢; obtain ⟨b, h, rfl⟩ := h; exact ⟨b, get_ext h, rfl⟩
  | .slicec .., V, h => by simp only [SV.den, Option.map_eq_some_iff] at h ⊢; obtain ⟨b, h, rfl⟩ := h; exact ⟨b, get_ext h, rfl⟩
  | .slicex .., V, h => by simp only [SV.den, Option.map_eq_some_iff] at h ⊢; obtain ⟨b, h, rfl⟩ := h; exact ⟨b, get_ext h, rfl⟩
  | .nilslice, V, h => h
  | .str .., V, h => h
  | .agg l, V, h => by simp only [SV.den, Option.map_eq_some_iff] at h ⊢; obtain ⟨b, h, rfl⟩ := h; exact ⟨b, SV.denL_ext h, rfl⟩
  | .tuple l, V, h => by simp only [SV.den, Option.map_eq_some_iff] at h ⊢; obtain ⟨b, h, rfl⟩ := h; exact ⟨b, SV.denL_ext h, rfl⟩
  | .func .., V, h => by
    simp only [SV.den, Option.bind_eq_some_iff, Option.map_eq_some_iff] at h ⊢
    obtain ⟨a, h1, b, h2, rfl⟩ := h
    exact ⟨a, SV.denL_ext h1, b, SV.denL_ext h2, rfl⟩
  | .nilFunc, V, h => h
  | .nilIface, V, h => h
  | .iface .., V, h => by simp only [SV.den, Option.map_eq_some_iff] at h ⊢; obtain ⟨b, h, rfl⟩ := h; exact ⟨b, SV.den_ext h, rfl⟩
  | .nilmap, V, h => h
  | .opq .., V, h => h
  | .any, V, h => h
theorem SV.denL_ext {ρ ns : Rho} {v : Env} : ∀ {l : List SV} {L : List Value}, SV.denL ρ v l = some L → SV.denL (ρ ++ ns) v l = some L
  | [], L, h => h
  | x :: l, L, h => by
    simp only [SV.denL, Option.bind_eq_some_iff, Option.map_eq_some_iff] at h ⊢
    obtain ⟨a, h1, b, h2, rfl⟩ := h
    exact ⟨a, SV.den_ext h1, b, SV.denL_ext h2, rfl⟩
end
theorem get_sc {ρ ns : Rho} {n : Nat} (h : Nat.blt n ρ.length = true) : (ρ ++ ns)[n]? = ρ[n]? := by
  have : n < ρ.length := by simpa [Nat.blt_eq] using h
  rw [List.getElem?_append_left this]
mutual
theorem SV.den_sc {ρ ns : Rho} {v : Env} : ∀ {x : SV}, x.sc ρ.length = true → x.den (ρ ++ ns) v = x.den ρ v
  | .int .., h => rfl
  | .bool .., h => rfl
  | .ptr .., h => by simp only [SV.sc] at h; simp only [SV.den, get_sc h]
  | .ptrx .., h => by simp only [SV.sc] at h; simp only [SV.den, get_sc h]
  | .ptra .., h => by simp only [SV.sc] at h; simp only [SV.den, get_sc h]
  | .nilp, h => rfl
  | .slice .., h => by simp only [SV.sc] at h; simp only [SV.den, get_sc h]
  | .slicec .., h => by simp only [SV.sc] at h; simp only [SV.den, get_sc h]
  | .slicex .., h => by simp only [SV.sc] at h; simp only [SV.den, get_sc h]
  | .nilslice, h => rfl
  | .str .., h => rfl
  | .agg l, h => by simp only [SV.sc] at h; simp only [SV.den, SV.denL_sc h]
  | .tuple l, h => by simp only [SV.sc] at h; simp only [SV.den, SV.denL_sc h]
  | .func .., h => by simp only [SV.sc, Bool.and_eq_true] at h; simp only [SV.den, SV.denL_sc h.1, SV.denL_sc h.2]
  | .nilFunc, h => rfl
  | .nilIface, h => rfl
  | .iface .., h => by simp only [SV.sc] at h; simp only [SV.den, SV.den_sc h]
  | .nilmap, h => rfl
  | .opq .., h => rfl
  | .any, h => rfl
theorem SV.denL_sc {ρ ns : Rho} {v : Env} : ∀ {l : List SV}, SV.scL ρ.length l = true → SV.denL (ρ ++ ns) v l = SV.denL ρ v l
  | [], h => rfl
  | x :: l, h => by
    simp only [SV.scL, Bool.and_eq_true] at h
    simp only [SV.denL, SV.den_sc h.1, SV.denL_sc h.2]
end
theorem den_one {ρ : Rho} {v : Env} {x : SV} {V : Value} (h1 : x.one = true) (h : x.den ρ v = some V) : V.oneCell' = true := by
  cases x <;> simp [SV.one] at h1 <;> simp [SV.den, Option.bind_eq_some_iff] at h
  case int => subst h; rfl
  case bool => subst h; rfl
  case ptr => obtain ⟨b, _, rfl⟩ := h; rfl
  case ptrx => obtain ⟨b, _, rfl⟩ := h; rfl
  case ptra => obtain ⟨b, _, rfl⟩ := h; rfl
  case nilp => subst h; rfl
  case slice => obtain ⟨b, _, rfl⟩ := h; rfl
  case slicex => obtain ⟨b, _, rfl⟩ := h; rfl
  case slicec => obtain ⟨b, q, _, rfl⟩ := h; rfl
  case nilslice => subst h; rfl
  case str => subst h; rfl
  case func => obtain ⟨a, _, b, _, rfl⟩ := h; rfl
  case nilFunc => subst h; rfl
  case nilIface => subst h; rfl
  case iface => obtain ⟨b, _, rfl⟩ := h; rfl
  case nilmap => subst h; rfl
  case opq i =>
    cases hc : (v.vv i).oneCell'
    · simp [hc] at h
    · simp [hc] at h; subst h; exact hc
theorem cells_of_one {V : Value} (h : V.oneCell' = true) : V.cells = #[V] := by
  cases V <;> first | rfl | (simp [Value.oneCell'] at h)
theorem den_cells {ρ : Rho} {v : Env} {x : SV} {V : Value} (h : x.den ρ v = some V) : SV.denL ρ v x.cells = some V.cells.toList := by
  by_cases hx : x.one = true
  · have := cells_of_one (den_one hx h)
    rw [this]
    cases x <;> simp [SV.one] at hx <;> simp [SV.cells, SV.denL, h]
  · cases x <;> simp [SV.one] at hx
    case agg l =>
      simp only [SV.den, Option.map_eq_some_iff] at h
      obtain ⟨L, h, rfl⟩ := h
      simpa [SV.cells, Value.cells] using h
    case tuple l =>
      have h0 := h
      simp only [SV.den, Option.map_eq_some_iff] at h
      obtain ⟨L, h, rfl⟩ := h
      simp [SV.cells, Value.cells, SV.denL, h0]
    case any => simp [SV.den] at h
section lists
variable {ρ : Rho} {v : Env}
theorem denL_length : ∀ {l : List SV} {L : List Value}, SV.denL ρ v l = some L → L.length = l.length
  | [], L, h => by simp [SV.denL] at h; subst h; rfl
  | x :: l, L, h => by
    simp only [SV.denL, Option.bind_eq_some_iff, Option.map_eq_some_iff] at h
    obtain ⟨a, h1, b, h2, rfl⟩ := h
    simp [denL_length h2]
theorem denL_get : ∀ {l : List SV} {L : List Value} {i : Nat} {x : SV}, SV.denL ρ v l = some L → l[i]? = some x → ∃ V, L[i]? = some V ∧ x.den ρ v = some V
  | [], L, i, x, h, hi => by simp at hi
  | y :: l, L, i, x, h, hi => by
    simp only [SV.denL, Option.bind_eq_some_iff, Option.map_eq_some_iff] at h
    obtain ⟨a, h1, b, h2, rfl⟩ := h
    cases i with
    | zero => simp at hi; subst hi; exact ⟨a, rfl, h1⟩
    | succ i => simp at hi; simpa using denL_get h2 hi
theorem denL_append : ∀ {l m : List SV} {L M : List Value}, SV.denL ρ v l = some L → SV.denL ρ v m = some M → SV.denL ρ v (l ++ m) = some (L ++ M)
  | [], m, L, M, h, hm => by simp [SV.denL] at h; subst h; simpa using hm
  | x :: l, m, L, M, h, hm => by
    simp only [SV.denL, Option.bind_eq_some_iff, Option.map_eq_some_iff] at h
    obtain ⟨a, h1, b, h2, rfl⟩ := h
    simp only [List.cons_append, SV.denL, Option.bind_eq_some_iff, Option.map_eq_some_iff]
    exact ⟨a, h1, b ++ M, denL_append h2 hm, rfl⟩
theorem denL_take : ∀ (n : Nat) {l : List SV} {L : List Value}, SV.denL ρ v l = some L → SV.denL ρ v (l.take n) = some (L.take n)
  | 0, l, L, h => by simp [SV.denL]
  | n + 1, [], L, h => by simp [SV.denL] at h; subst h; rfl
  | n + 1, x :: l, L, h => by
    simp only [SV.denL, Option.bind_eq_some_iff, Option.map_eq_some_iff] at h
    obtain ⟨a, h1, b, h2, rfl⟩ := h
    simp only [List.take_succ_cons, SV.denL, Option.bind_eq_some_iff, Option.map_eq_some_iff]
    exact ⟨a, h1, _, denL_take n h2, rfl⟩
theorem denL_drop : ∀ (n : Nat) {l : List SV} {L : List Value}, SV.denL ρ v l = some L → SV.denL ρ v (l.drop n) = some (L.drop n)
  | 0, l, L, h => by simpa using h
  | n + 1, [], L, h => by simp [SV.denL] at h; subst h; rfl
  | n + 1, x :: l, L, h => by
    simp only [SV.denL, Option.bind_eq_some_iff, Option.map_eq_some_iff] at h
    obtain ⟨a, h1, b, h2, rfl⟩ := h
    simpa using denL_drop n h2
theorem denL_one : ∀ {l : List SV} {L : List Value}, SV.denL ρ v l = some L → l.all SV.one = true → ∀ V ∈ L, V.oneCell' = true
  | [], L, h, _ => by simp [SV.denL] at h; subst h; simp
  | x :: l, L, h, h1 => by
    simp only [SV.denL, Option.bind_eq_some_iff, Option.map_eq_some_iff] at h
    obtain ⟨a, ha, b, hb, rfl⟩ := h
    simp only [List.all_cons, Bool.and_eq_true] at h1
    intro V hV
    simp at hV
    rcases hV with rfl | hV
    · exact den_one h1.1 ha
    · exact denL_one hb h1.2 V hV
end lists
theorem ofVal1_ok {ρ : Rho} {v : Env} {V : Value} {x : SV} (h : ofVal1 V = some x) : x.den ρ v = some V := by
  unfold ofVal1 at h
  split at h <;> simp at h <;> subst h <;> simp [SV.den, E.i, E.b]
theorem ofValL_ok {ρ : Rho} {v : Env} : ∀ {L : List Value} {l : List SV}, ofValL L = some l → SV.denL ρ v l = some L
  | [], l, h => by simp [ofValL] at h; subst h; rfl
  | V :: L, l, h => by
    simp only [ofValL, Option.bind_eq_some_iff, Option.map_eq_some_iff] at h
    obtain ⟨a, h1, b, h2, rfl⟩ := h
    simp only [SV.denL, Option.bind_eq_some_iff, Option.map_eq_some_iff]
    exact ⟨V, ofVal1_ok h1, L, ofValL_ok h2, rfl⟩
theorem ofVal_ok {ρ : Rho} {v : Env} {V : Value} {x : SV} (h : ofVal V = some x) : x.den ρ v = some V := by
  unfold ofVal at h
  split at h
  · simp only [Option.map_eq_some_iff] at h
    obtain ⟨l, h, rfl⟩ := h
    simp [SV.den, ofValL_ok h]
  · rename_i cs
    split at h
    · simp at h; subst h
      have : cs = #[] := by apply Array.ext'; simp_all
      simp [SV.den, SV.denL, this]
    · simp at h
  · exact ofVal1_ok h

/-! ### memory -/
def arrI (v : Env) (b : Nat) : List (E × E) → Nat → Int
  | [], j => v.vi (b + j)
  | (e, x) :: r, j => if e.i v = j then x.i v else arrI v b r j
def Blk.holds (ρ : Rho) (v : Env) : Blk → Obj → Prop
  | .row cells ty, o => ∃ L X : List Value, SV.denL ρ v cells = some L ∧ o = .cells (L ++ X).toArray ty (0, 0)
  | .arr b len k ups ty, o => ∃ cs : Array Value, o = .cells cs ty (0, 0) ∧ len.i v ≤ cs.size ∧ ∀ j : Nat, j < len.i v → cs[j]? = some (.int k (arrI v b ups j))
  | .ext, _ => True
theorem Blk.holds_ext {ρ ns : Rho} {v : Env} {b : Blk} {o : Obj} (h : b.holds ρ v o) : b.holds (ρ ++ ns) v o := by
  cases b with
  | row cells ty => obtain ⟨L, X, h1, h2⟩ := h; exact ⟨L, X, SV.denL_ext h1, h2⟩
  | arr => exact h
  | ext => trivial
theorem Blk.holds_sc {ρ ns : Rho} {v : Env} {b : Blk} {o : Obj} (hs : b.sc ρ.length = true) (h : b.holds (ρ ++ ns) v o) : b.holds ρ v o := by
  cases b with
  | row cells ty => obtain ⟨L, X, h1, h2⟩ := h; exact ⟨L, X, by rw [← SV.denL_sc hs]; exact h1, h2⟩
  | arr => exact h
  | ext => trivial
structure Rep (c : Cx) (ρ : Rho) (v : Env) (s : St) (w : World) : Prop where
  len : s.length = ρ.length
  nd : (ρ.map (·.1)).Nodup
  gl : ∀ (i g : Nat), c.gl[i]? = some g → ρ[i]? = some (g, 0)
  blk : ∀ (i : Nat) (b : Blk), s[i]? = some b → ∃ n o, ρ[i]? = some n ∧ w.heap[n.1]? = some o ∧ b.holds ρ v o
/-- A block of the same size, type and marks. -/
def Sh : Obj → Obj → Prop
  | .cells c t fr, o' => ∃ c', o' = .cells c' t fr ∧ c'.size = c.size
  | o, o' => o' = o
theorem Sh.refl (o : Obj) : Sh o o := by cases o <;> first | exact ⟨_, rfl, rfl⟩ | rfl
theorem Sh.trans {a b c : Obj} (h : Sh a b) (h' : Sh b c) : Sh a c := by
  cases a with
  | cells x t fr =>
    obtain ⟨c', rfl, h1⟩ := h
    obtain ⟨c'', rfl, h2⟩ := h'
    exact ⟨c'', rfl, h2.trans h1⟩
  | _ =>
    have h1 : b = _ := h
    subst h1
    exact h'
structure Keeps (ρ : Rho) (w w' : World) : Prop where
  os : w'.os = w.os
  tape : w'.tape = w.tape
  output : w'.output = w.output
  size : w.heap.size ≤ w'.heap.size
  heap : ∀ k, k < w.heap.size → k ∉ ρ.map (·.1) → w'.heap[k]? = w.heap[k]?
  shape : ∀ (k : Nat) (o : Obj), w.heap[k]? = some o → ∃ o', w'.heap[k]? = some o' ∧ Sh o o'
structure Out (ρ : Rho) (w : World) (ρ' : Rho) (w' : World) : Prop where
  ext : ∃ ns : Rho, ρ' = ρ ++ ns ∧ ∀ n ∈ ns, w.heap.size ≤ n.1
  keeps : Keeps ρ w w'
theorem Out.refl (ρ : Rho) (w : World) : Out ρ w ρ w := ⟨⟨[], by simp, by simp⟩, rfl, rfl, rfl, Nat.le_refl _, fun _ _ _ => rfl, fun _ o h => ⟨o, h, Sh.refl o⟩⟩
theorem Out.trans {ρ ρ1 ρ2 : Rho} {w w1 w2 : World} (h : Out ρ w ρ1 w1) (h' : Out ρ1 w1 ρ2 w2) : Out ρ w ρ2 w2 := by
  obtain ⟨⟨ns, rfl, hn⟩, hk⟩ := h
  obtain ⟨⟨ms, rfl, hm⟩, hk'⟩ := h'
  refine ⟨⟨ns ++ ms, by simp, fun n hn' => ?_⟩, hk'.os.trans hk.os, hk'.tape.trans hk.tape, hk'.output.trans hk.output, Nat.le_trans hk.size hk'.size, fun k hk1 hk2 => ?_, fun k o ho => (by
    obtain ⟨o1, h1, s1⟩ := hk.shape k o ho
    obtain ⟨o2, h2, s2⟩ := hk'.shape k o1 h1
    exact ⟨o2, h2, s1.trans s2⟩)⟩
  · simp at hn'
    rcases hn' with h | h
    · exact hn n h
    · exact Nat.le_trans hk.size (hm n h)
  · rw [hk'.heap k (Nat.lt_of_lt_of_le hk1 hk.size) (fun h => ?_), hk.heap k hk1 hk2]
    rw [List.map_append, List.mem_append] at h
    rcases h with h | h
    · exact hk2 h
    · obtain ⟨n, hn', rfl⟩ := List.mem_map.1 h
      have := hn n hn'
      omega
/-- Fewer names. -/
theorem Out.less {ρ ρ' : Rho} {w w' : World} (h : Out ρ w ρ' w') : Out ρ w ρ w' := ⟨⟨[], by simp, by simp⟩, h.keeps⟩
theorem Out.drawn {ρ ρ' : Rho} {w w' : World} (n : Nat) (h : Out ρ w ρ' w') : Out ρ { w with drawn := n } ρ' w' := ⟨h.ext, h.keeps.os, h.keeps.tape, h.keeps.output, h.keeps.size, h.keeps.heap, h.keeps.shape⟩
theorem Out.den {ρ ρ' : Rho} {w w' : World} (h : Out ρ w ρ' w') {v : Env} {x : SV} {V : Value} (hx : x.den ρ v = some V) : x.den ρ' v = some V := by
  obtain ⟨⟨ns, rfl, _⟩, _⟩ := h; exact SV.den_ext hx
theorem Rep.drawn {c : Cx} {ρ : Rho} {v : Env} {s : St} {w : World} (h : Rep c ρ v s w) (n : Nat) : Rep c ρ v s { w with drawn := n } := ⟨h.len, h.nd, h.gl, h.blk⟩
theorem Rep.lt {c : Cx} {ρ : Rho} {v : Env} {s : St} {w : World} (h : Rep c ρ v s w) {n : Nat} (hn : n ∈ ρ.map (·.1)) : n < w.heap.size := by
  obtain ⟨m, hm, rfl⟩ := List.mem_map.1 hn
  obtain ⟨i, hi, rfl⟩ := List.getElem_of_mem hm
  have hs : i < s.length := by rw [h.len]; exact hi
  obtain ⟨m, o, h1, h2, _⟩ := h.blk i s[i] (by simp [hs])
  have : ρ[i] = m := by simpa [hi] using h1
  rw [this]; exact (Array.getElem?_eq_some_iff.1 h2).1
/-- A new block, whatever its number is called with. -/
theorem Rep.alloc' {c : Cx} {ρ : Rho} {v : Env} {s : St} {w : World} (h : Rep c ρ v s w) {b : Blk} {o : Obj} (q : Nat) (hb : b.holds ρ v o) :
    Rep c (ρ ++ [(w.heap.size, q)]) v (s ++ [b]) (w.alloc o) ∧ Out ρ w (ρ ++ [(w.heap.size, q)]) (w.alloc o) := by
  refine ⟨⟨by simp [h.len], ?_, fun i g hg => get_ext (h.gl i g hg), fun i b' hb' => ?_⟩, ⟨[(w.heap.size, q)], rfl, by simp⟩, rfl, rfl, rfl, by rw [World.size_alloc]; omega, fun k hk _ => ?_, fun k o' ho' => ⟨o', by rw [heap_alloc_old w _ k (Array.getElem?_eq_some_iff.1 ho').1]; exact ho', Sh.refl o'⟩⟩
  · rw [List.map_append, List.nodup_append]
    refine ⟨h.nd, by simp, fun a ha b hb => ?_⟩
    simp at hb
    have := h.lt ha
    omega
  · by_cases hi : i < s.length
    · rw [List.getElem?_append_left hi] at hb'
      obtain ⟨n, o', h1, h2, h3⟩ := h.blk i b' hb'
      refine ⟨n, o', get_ext h1, ?_, Blk.holds_ext h3⟩
      rw [heap_alloc_old w _ n.1 (Array.getElem?_eq_some_iff.1 h2).1]; exact h2
    · rw [List.getElem?_append_right (by omega)] at hb'
      have hi2 : i - s.length = 0 := by
        have := (List.getElem?_eq_some_iff.1 hb').1
        simp at this; omega
      rw [hi2] at hb'
      simp at hb'
      subst hb'
      have hi3 : i = ρ.length := by have := h.len; omega
      exact ⟨(w.heap.size, q), o, by simp [hi3], heap_alloc_new w _, Blk.holds_ext hb⟩
  · exact heap_alloc_old w _ k hk
theorem Rep.alloc {c : Cx} {ρ : Rho} {v : Env} {s : St} {w : World} (h : Rep c ρ v s w) {cells : List SV} {ty : TypeId} {L : List Value} (hL : SV.denL ρ v cells = some L) :
    Rep c (ρ ++ [(w.heap.size, 0)]) v (s ++ [.row cells ty]) (w.alloc (.cells L.toArray ty)) ∧ Out ρ w (ρ ++ [(w.heap.size, 0)]) (w.alloc (.cells L.toArray ty)) :=
  h.alloc' 0 ⟨L, [], hL, by simp⟩
theorem Rep.set {c : Cx} {ρ : Rho} {v : Env} {s : St} {w : World} (h : Rep c ρ v s w) {i : Nat} {g : Nat × Nat} {b : Blk} (hg : ρ[i]? = some g) {w' : World} {o : Obj}
    (hw : w'.heap[g.1]? = some o) (hb : b.holds ρ v o) (hother : ∀ k, k ≠ g.1 → w'.heap[k]? = w.heap[k]?) (hos : w'.os = w.os) (htape : w'.tape = w.tape) (hout : w'.output = w.output) (hsz : w'.heap.size = w.heap.size) (hsh : ∀ o0, w.heap[g.1]? = some o0 → Sh o0 o) :
    Rep c ρ v (s.set i b) w' ∧ Out ρ w ρ w' := by
  have hgi : g.1 ∈ ρ.map (·.1) := List.mem_map.2 ⟨g, List.mem_of_getElem? hg, rfl⟩
  refine ⟨⟨by simp [h.len], h.nd, h.gl, fun j b' hb' => ?_⟩, ⟨[], by simp, by simp⟩, hos, htape, hout, by omega, fun k _ hk => hother k (fun e => hk (e ▸ hgi)), fun k o0 ho0 => (by
    by_cases hk : k = g.1
    · subst hk; exact ⟨o, hw, hsh o0 ho0⟩
    · exact ⟨o0, by rw [hother k hk]; exact ho0, Sh.refl o0⟩)⟩
  by_cases hij : i = j
  · subst hij
    have hi : i < s.length := by rw [h.len]; exact (List.getElem?_eq_some_iff.1 hg).1
    rw [List.getElem?_set_self hi] at hb'
    simp at hb'
    subst hb'
    exact ⟨g, o, hg, hw, hb⟩
  · rw [List.getElem?_set_ne hij] at hb'
    obtain ⟨n, o', h1, h2, h3⟩ := h.blk j b' hb'
    refine ⟨n, o', h1, ?_, h3⟩
    rw [hother n.1, h2]
    intro e
    have h4 := (List.getElem?_eq_some_iff.1 hg)
    have h5 := (List.getElem?_eq_some_iff.1 h1)
    have h6 := (List.getElem_inj (xs := ρ.map (·.1)) (i := i) (j := j) (h₀ := by simpa using h4.1) (h₁ := by simpa using h5.1) h.nd).1
    apply hij
    apply h6
    simp only [List.getElem_map, h4.2, h5.2]
    exact e.symm
end Go.Proofs.YtancmkdmlghlpaaGreatDoor.Ev
