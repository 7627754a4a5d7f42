/- The reckoner at this seat: the program fits it; the table of words that are decoded; the package's variables; the ends of the laws. No statement is proved here. -/
import Derived.Test.YtancmkdmlghlpaaGreatDoorWord2
import Derived.Test.YtancmkdmlghlpaaGreatDoorEvG
import Derived.Test.YtancmkdmlghlpaaGreatDoorRows
import Derived.ProofKit
import Derived.OpenShut
import Derived.LaidMore
import Derived.Lay
import Derived.LaidOnce
import Derived.MakeChecks
import Derived.HandedShaped
namespace Go.Proofs.YtancmkdmlghlpaaGreatDoor
open Go Go.RowKit Ev Go.ChangeShapes Go.WideShapes
theorem fitNames : (Tryz.prog.funcs.toList.all fun fn => fn.name != "runtime.NumGoroutine") = true := by kernel_rfl
theorem fitMixed : Tryz.prog.follows .mixedOrders = true := by kernel_rfl
theorem fit : Fit Tryz.prog := ⟨fun fn h => by have := List.all_eq_true.1 fitNames fn h; simpa using this, fitMixed⟩
/-- What a word says. -/
def wSV (k d a b i : Int) (ok : Bool) : SV := .tuple [.agg [.int .i64 (.lit k), .int .i64 (.lit d), .int .i64 (.lit a), .int .i64 (.lit b), .int .u32 (.lit i)], .bool (.blit ok)]
def wTab : List (Int × SV) := [
  (5243027, wSV 19 1 0 0 5 true),
  (0, wSV 0 0 0 0 0 false),
  (19, wSV 19 0 0 0 0 true),
  (268476847, wSV 46 3 1 0 0 true),
  (404791855, wSV 47 4 1 2 0 true),
  (404955695, wSV 47 4 6 2 0 true),
  (404791983, wSV 47 5 1 2 0 true),
  (115, wSV 58 0 0 0 0 true),
  (807403635, wSV 60 0 0 0 0 true),
  (270532723, wSV 61 0 0 0 0 true)]
def wFind (n : Int) : List (Int × SV) → Option SV
  | [] => none
  | (m, x) :: l => if n = m then some x else wFind n l
def tabF0 : FuncId → List SV → St → Option SV := fun f args _ => match Nat.beq f 35, args with
  | true, [.int .u32 (.lit n)] => wFind n wTab
  | _, _ => none
def wOf (x : BitVec 32) : SV := match decodeF x with
  | some (k, c) => wSV (k + 1 : Nat) (rdL c x) (r1L c x) (r2L c x) (u (immL c x)) true
  | none => wSV 0 0 0 0 0 false
theorem wOf_den (ρ : Rho) (v : Env) (x : BitVec 32) : (wOf x).den ρ v = some (wordV x) := by
  unfold wOf wordV
  cases decodeF x with
  | none => rfl
  | some p => rfl
theorem wTab_ok : ∀ p ∈ wTab, wOf (BitVec.ofInt 32 p.1) = p.2 ∧ u (BitVec.ofInt 32 p.1) = p.1 := by
  intro p hp
  simp only [wTab, List.mem_cons, List.not_mem_nil, or_false] at hp
  rcases hp with rfl | rfl | rfl | rfl | rfl | rfl | rfl | rfl | rfl | rfl
  all_goals exact ⟨by kernel_rfl, by kernel_rfl⟩
theorem wFind_mem {n : Int} {x : SV} : ∀ {l : List (Int × SV)}, wFind n l = some x → (n, x) ∈ l
  | [], h => by cases h
  | (m, y) :: l, h => by
    unfold wFind at h
    split at h
    · rename_i e; subst e; injection h with h; subst h; exact List.mem_cons_self
    · exact List.mem_cons_of_mem _ (wFind_mem h)
noncomputable def cxT (tab : FuncId → List SV → St → Option SV) : Cx := ⟨Tryz.prog, [0, 1, 2], tab⟩
noncomputable def cx0 : Cx := cxT tabF0
theorem rep_below {c : Cx} {ρ : Rho} {v : Env} {s : St} {w w' : World} (h : Rep c ρ v s w) (hb : Below w.heap.size w w') : Keeps ρ w w' ∧ Rep c ρ v s w' :=
  ⟨⟨hb.os, hb.tape, hb.output, hb.size, fun k hk _ => hb.block k hk, fun k o ho => ⟨o, by rw [hb.block k (lt_of_obj ho)]; exact ho, Sh.refl o⟩⟩,
    ⟨h.len, h.nd, h.gl, fun i b hi => by
      obtain ⟨n, o, h1, h2, h3⟩ := h.blk i b hi
      exact ⟨n, o, h1, by rw [hb.block _ (lt_of_obj h2)]; exact h2, h3⟩⟩⟩
theorem tabOk0 (v : Env) {tab : FuncId → List SV → St → Option SV} (f : FuncId) (args : List SV) (s : St) (x : SV) (h : tabF0 f args s = some x) (ρ : Rho) (w : World) (L : List Value) (hR : Rep (cxT tab) ρ v s w) (hL : SV.denL ρ v args = some L) :
    Calls Tryz.prog f L.toArray w (fun e w' => ∃ V, e = .returned V ∧ x.den ρ v = some V ∧ Keeps ρ w w' ∧ Rep (cxT tab) ρ v s w') := by
  unfold tabF0 at h
  split at h
  · rename_i n hf
    have hf : f = 35 := Nat.eq_of_beq_eq_true hf
    subst hf
    obtain ⟨h1, h2⟩ := wTab_ok _ (wFind_mem h)
    simp only [SV.denL, SV.den, Option.bind_some, Option.map_some, Option.some.injEq, E.i] at hL
    subst hL
    have hw := word_any (BitVec.ofInt 32 n) w
    have e : (#[U (BitVec.ofInt 32 n)] : Array Value) = [Value.int .u32 n].toArray := by
      have : U (BitVec.ofInt 32 n) = .int .u32 n := by unfold U; rw [h2]
      rw [this]
    rw [e] at hw
    refine hw.mono fun e w' ⟨he, hb⟩ => ?_
    obtain ⟨k1, k2⟩ := rep_below hR hb
    exact ⟨_, he, (congrArg (SV.den ρ v) h1).symm.trans (wOf_den ρ v _), k1, k2⟩
  · cases h
/-- The package's variables. -/
def lits (l : List Int) : List SV := l.map fun n => .int .u32 (.lit n)
def stG : St := [.row (lits [11, 3, 7, 9, 1, 5]) 85, .row (lits [1, 5, 7]) 116, .row (lits [0, 4, 6]) 116]
def rhoG : Rho := [(0, 0), (1, 0), (2, 0)]
structure Gl (W : World) : Prop where
  g0 : W.heap[0]? = some (.cells #[.int .u32 11, .int .u32 3, .int .u32 7, .int .u32 9, .int .u32 1, .int .u32 5] (/-T-/ 85))
  g1 : W.heap[1]? = some (.cells #[.int .u32 1, .int .u32 5, .int .u32 7] (/-T-/ 116))
  g2 : W.heap[2]? = some (.cells #[.int .u32 0, .int .u32 4, .int .u32 6] (/-T-/ 116))
theorem Gl.rep {tab : FuncId → List SV → St → Option SV} {W : World} (h : Gl W) (v : Env) : Rep (cxT tab) rhoG v stG W := by
  refine ⟨rfl, by decide, fun i g hg => ?_, fun i b hb => ?_⟩
  · match i with
    | 0 => have : g = 0 := (Option.some.inj hg).symm; subst this; rfl
    | 1 => have : g = 1 := (Option.some.inj hg).symm; subst this; rfl
    | 2 => have : g = 2 := (Option.some.inj hg).symm; subst this; rfl
    | i + 3 => simp [cxT] at hg
  · match i with
    | 0 => have := (Option.some.inj hb).symm; subst this; exact ⟨(0, 0), _, rfl, h.g0, _, [], rfl, rfl⟩
    | 1 => have := (Option.some.inj hb).symm; subst this; exact ⟨(1, 0), _, rfl, h.g1, _, [], rfl, rfl⟩
    | 2 => have := (Option.some.inj hb).symm; subst this; exact ⟨(2, 0), _, rfl, h.g2, _, [], rfl, rfl⟩
    | i + 3 => simp [stG] at hb
/-- A block that holds the same values, and has the same size, is the same. -/
theorem same_block {cs : Array Value} {t : TypeId} {ρ : Rho} {v : Env} {cells : List SV} {o : Obj} (hL : SV.denL ρ v cells = some cs.toList) (hb : (Blk.row cells t).holds ρ v o) (hs : Sh (.cells cs t) o) : o = .cells cs t := by
  obtain ⟨L, X, h1, rfl⟩ := hb
  rw [hL] at h1
  injection h1 with h1
  subst h1
  obtain ⟨c', e, hz⟩ := hs
  injection e with e _ _
  subst e
  have : X = [] := by
    have : (cs.toList ++ X).length = cs.toList.length := by simpa using hz
    rw [List.length_append] at this
    exact List.eq_nil_of_length_eq_zero (by omega)
  subst this
  simp
/-- At the end of a call the world is the old one, and new blocks. -/
theorem Gl.below {tab : FuncId → List SV → St → Option SV} {W W' : World} {v : Env} {ρ' : Rho} (h : Gl W) (ho : Out rhoG W ρ' W') (hr : Rep (cxT tab) ρ' v stG W') : Below W.heap.size W W' := by
  refine ⟨ho.keeps.os, ho.keeps.tape, ho.keeps.output, ho.keeps.size, fun k hk => ?_⟩
  obtain ⟨⟨ns, rfl, _⟩, hkp⟩ := ho
  have hlen := hr.len
  have hns : ns = [] := by
    have : stG.length = rhoG.length + ns.length := by rw [hlen, List.length_append]
    have h3 : (3 : Nat) = 3 + ns.length := this
    exact List.eq_nil_of_length_eq_zero (by omega)
  subst hns
  rw [List.append_nil] at hr
  have key : ∀ (k : Nat) (cs : Array Value) (t : TypeId) (cells : List SV), W.heap[k]? = some (.cells cs t) → stG[k]? = some (.row cells t) → rhoG[k]? = some (k, 0) → SV.denL rhoG v cells = some cs.toList → W'.heap[k]? = W.heap[k]? := by
    intro k cs t cells h1 h2 h3 h4
    obtain ⟨n, o, h5, h6, h7⟩ := hr.blk k _ h2
    rw [h3] at h5
    injection h5 with h5
    subst h5
    obtain ⟨o', h8, h9⟩ := hkp.shape k _ h1
    have h6 : W'.heap[k]? = some o := h6
    rw [h6] at h8
    injection h8 with h8
    subst h8
    rw [h6, h1, same_block h4 h7 h9]
  by_cases h0 : k = 0
  · subst h0; exact key 0 _ _ _ h.g0 rfl rfl rfl
  by_cases h1 : k = 1
  · subst h1; exact key 1 _ _ _ h.g1 rfl rfl rfl
  by_cases h2 : k = 2
  · subst h2; exact key 2 _ _ _ h.g2 rfl rfl rfl
  exact hkp.heap k hk (by simp [rhoG]; omega)
/-- A law that comes to true, the package's variables as they were. -/
theorem law_true {tab : FuncId → List SV → St → Option SV} {f : FuncId} {args : List SV} {n : Nat} {p : Path} {v : Env} {L : List Value} {W : World} {e : E} (hT : TabOk (cxT tab) v) (h : Gl W) (hL : SV.denL rhoG v args = some L) (hp : PathOk v p)
    (he : (evF (cxT tab) n f args stG p).pick v = some ⟨.ret (.bool e), stG⟩) (ht : e.b v = true) : Calls Tryz.prog f L.toArray W fun e W' => e = .returned (.bool true) ∧ Below W.heap.size W W' := by
  refine (evF_ok fit hT hL (h.rep v) hp he).mono fun e' W' ⟨ρ', ho, hr, V, hV, e2⟩ => ?_
  subst e2
  simp only [SV.den, ht, Option.some.injEq] at hV
  subst hV
  exact ⟨rfl, h.below ho hr⟩
theorem stG_len {tab : FuncId → List SV → St → Option SV} {ρ : Rho} {v : Env} {w : World} (h : Rep (cxT tab) ρ v stG w) (ho : ∃ ns, ρ = rhoG ++ ns) : ρ = rhoG := by
  obtain ⟨ns, rfl⟩ := ho
  have h3 : (3 : Nat) = 3 + ns.length := by have := h.len; rw [List.length_append] at this; exact this
  have : ns = [] := List.eq_nil_of_length_eq_zero (by omega)
  rw [this, List.append_nil]
theorem lits_den (ρ ρ' : Rho) (v : Env) : ∀ l : List Int, SV.denL ρ v (lits l) = SV.denL ρ' v (lits l)
  | [] => rfl
  | a :: l => by
    have := lits_den ρ ρ' v l
    unfold lits at this ⊢
    simp only [List.map_cons, SV.denL, SV.den, this]
theorem holds_lits {ρ : Rho} (ρ' : Rho) {v : Env} {i : Nat} {b : Blk} {o : Obj} (hb : stG[i]? = some b) (h : b.holds ρ v o) : b.holds ρ' v o := by
  have hx : ∃ l t, b = .row (lits l) t := by
    match i with
    | 0 => exact ⟨_, _, (Option.some.inj hb).symm⟩
    | 1 => exact ⟨_, _, (Option.some.inj hb).symm⟩
    | 2 => exact ⟨_, _, (Option.some.inj hb).symm⟩
    | i + 3 => simp [stG] at hb
  obtain ⟨l, t, rfl⟩ := hx
  obtain ⟨L, X, h1, h2⟩ := h
  exact ⟨L, X, by rw [lits_den ρ' ρ]; exact h1, h2⟩
theorem rho_of {tab : FuncId → List SV → St → Option SV} {ρ : Rho} {v : Env} {s : St} {w : World} (h : Rep (cxT tab) ρ v s w) : ∀ i, i < 3 → ρ[i]? = some (i, 0) := by
  intro i hi
  match i, hi with
  | 0, _ => exact h.gl 0 0 rfl
  | 1, _ => exact h.gl 1 1 rfl
  | 2, _ => exact h.gl 2 2 rfl
/-- The package's variables alone. -/
theorem rep_stG {tab tab' : FuncId → List SV → St → Option SV} {ρ : Rho} {v : Env} {s : St} {w : World} (h : Rep (cxT tab) ρ v s w) (hs : s.take 3 = stG) : Rep (cxT tab') rhoG v stG w := by
  refine ⟨rfl, by decide, fun i g hg => ?_, fun i b hb => ?_⟩
  · match i with
    | 0 => have : g = 0 := (Option.some.inj hg).symm; subst this; rfl
    | 1 => have : g = 1 := (Option.some.inj hg).symm; subst this; rfl
    | 2 => have : g = 2 := (Option.some.inj hg).symm; subst this; rfl
    | i + 3 => simp [cxT] at hg
  · have hi : i < 3 := (List.getElem?_eq_some_iff.1 hb).1
    have hb2 : s[i]? = some b := by rw [← hs, List.getElem?_take, if_pos hi] at hb; exact hb
    obtain ⟨n, o, h1, h2, h3⟩ := h.blk i b hb2
    rw [rho_of h i hi] at h1
    injection h1 with h1
    subst h1
    refine ⟨(i, 0), o, ?_, h2, holds_lits rhoG hb h3⟩
    match i, hi with
    | 0, _ => rfl
    | 1, _ => rfl
    | 2, _ => rfl
/-- What a function does that leaves the package's variables as they were. -/
theorem keep_stG {tab tab' : FuncId → List SV → St → Option SV} {ρ ρ' : Rho} {v : Env} {s : St} {w w' : World} (h : Rep (cxT tab) ρ v s w) (hs : s.take 3 = stG) (ho : Out rhoG w ρ' w') (hr : Rep (cxT tab') ρ' v stG w') : Keeps ρ w w' ∧ Rep (cxT tab) ρ v s w' := by
  have hρ : ρ' = rhoG := stG_len hr (by obtain ⟨⟨ns, h1, _⟩, _⟩ := ho; exact ⟨ns, h1⟩)
  subst hρ
  have hsub : ∀ k, k ∈ rhoG.map (·.1) → k ∈ ρ.map (·.1) := by
    intro k hk
    have hk3 : k < 3 := by simp [rhoG] at hk; omega
    exact List.mem_map.2 ⟨(k, 0), List.mem_of_getElem? (rho_of h k hk3), rfl⟩
  refine ⟨⟨ho.keeps.os, ho.keeps.tape, ho.keeps.output, ho.keeps.size, fun k hk hn => ho.keeps.heap k hk (fun hm => hn (hsub k hm)), ho.keeps.shape⟩, ⟨h.len, h.nd, h.gl, fun i b hi => ?_⟩⟩
  by_cases hi3 : i < 3
  · have hb2 : stG[i]? = some b := by rw [← hs, List.getElem?_take, if_pos hi3]; exact hi
    obtain ⟨n, o, h1, h2, h3⟩ := hr.blk i b hb2
    have : n = (i, 0) := by
      match i, hi3 with
      | 0, _ => exact (Option.some.inj h1).symm
      | 1, _ => exact (Option.some.inj h1).symm
      | 2, _ => exact (Option.some.inj h1).symm
    subst this
    exact ⟨(i, 0), o, rho_of h i hi3, h2, holds_lits ρ hb2 h3⟩
  · obtain ⟨n, o, h1, h2, h3⟩ := h.blk i b hi
    refine ⟨n, o, h1, ?_, h3⟩
    rw [ho.keeps.heap n.1 (lt_of_obj h2) (fun hm => ?_)]
    · exact h2
    · have hk3 : n.1 < 3 := by simp [rhoG] at hm; omega
      have h4 := rho_of h n.1 hk3
      have h5 := (List.getElem?_eq_some_iff.1 h1)
      have h6 := (List.getElem?_eq_some_iff.1 h4)
      have h7 := (List.getElem_inj (xs := ρ.map (·.1)) (i := i) (j := n.1) (h₀ := by simpa using h5.1) (h₁ := by simpa using h6.1) h.nd).1 (by simp only [List.getElem_map, h5.2, h6.2])
      omega
end Go.Proofs.YtancmkdmlghlpaaGreatDoor
