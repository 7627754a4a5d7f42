/- The reckoner at this seat: the program fits it; the table of words that are decoded; the package's variables; the ends of the laws. No statement is proved here. -/
import Derived.Test.YtancmkdmlghlpaaGreatDoorWord2
import Derived.Test.YtancmkdmlghlpaaGreatDoorEvG
import Derived.Test.YtancmkdmlghlpaaGreatDoorRows
import Derived.ProofKit
import Derived.OpenShut
import Derived.LaidMore
import Derived.Lay
import Derived.LaidOnce
import Derived.MakeChecks
import Derived.HandedShaped
namespace Go.Proofs.YtancmkdmlghlpaaGreatDoor
open Go Go.RowKit Ev Go.ChangeShapes Go.WideShapes
theorem fitNames : (Tryz.prog.funcs.toList.all fun fn => fn.name != "runtime.NumGoroutine") = true := by kernel_rfl
theorem fitMixed : Tryz.prog.follows .mixedOrders = true := by kernel_rfl
theorem fit : Fit Tryz.prog := ⟨fun fn h => by have := List.all_eq_true.1 fitNames fn h; simpa using this, fitMixed⟩
/-- What a word says. -/
def wSV (k d a b i : Int) (ok : Bool) : SV := .tuple [.agg [.int .i64 (.lit k), .int .i64 (.lit d), .int .i64 (.lit a), .int .i64 (.lit b), .int .u32 (.lit i)], .bool (.blit ok)]
def wTab : List (Int × SV) := [
  (5243027, wSV 19 1 0 0 5 true),
  (0, wSV 0 0 0 0 0 false),
  (19, wSV 19 0 0 0 0 true),
  (268476847, wSV 46 3 1 0 0 true),
  (404791855, wSV 47 4 1 2 0 true),
  (404955695, wSV 47 4 6 2 0 true),
  (404791983, wSV 47 5 1 2 0 true),
  (115, wSV 58 0 0 0 0 true),
  (807403635, wSV 60 0 0 0 0 true),
  (270532723, wSV 61 0 0 0 0 true)]
def wFind (n : Int) : List (Int × SV) → Option SV
  | [] => none
  | (m, x) :: l => if n = m then some x else wFind n l
def tabF : FuncId → List SV → Option SV := fun f args => match Nat.beq f 35, args with
  | true, [.int .u32 (.lit n)] => wFind n wTab
  | _, _ => none
def wOf (x : BitVec 32) : SV := match decodeF x with
  | some (k, c) => wSV (k + 1 : Nat) (rdL c x) (r1L c x) (r2L c x) (u (immL c x)) true
  | none => wSV 0 0 0 0 0 false
theorem wOf_den (ρ : Rho) (v : Env) (x : BitVec 32) : (wOf x).den ρ v = some (wordV x) := by
  unfold wOf wordV
  cases decodeF x with
  | none => rfl
  | some p => rfl
theorem wTab_ok : ∀ p ∈ wTab, wOf (BitVec.ofInt 32 p.1) = p.2 ∧ u (BitVec.ofInt 32 p.1) = p.1 := by
  intro p hp
  simp only [wTab, List.mem_cons, List.not_mem_nil, or_false] at hp
  rcases hp with rfl | rfl | rfl | rfl | rfl | rfl | rfl | rfl | rfl | rfl
  all_goals exact ⟨by kernel_rfl, by kernel_rfl⟩
theorem wFind_mem {n : Int} {x : SV} : ∀ {l : List (Int × SV)}, wFind n l = some x → (n, x) ∈ l
  | [], h => by cases h
  | (m, y) :: l, h => by
    unfold wFind at h
    split at h
    · rename_i e; subst e; injection h with h; subst h; exact List.mem_cons_self
    · exact List.mem_cons_of_mem _ (wFind_mem h)
noncomputable def cx : Cx := ⟨Tryz.prog, [0, 1, 2], tabF⟩
theorem rep_below {c : Cx} {ρ : Rho} {v : Env} {s : St} {w w' : World} (h : Rep c ρ v s w) (hb : Below w.heap.size w w') : Keeps ρ w w' ∧ Rep c ρ v s w' :=
  ⟨⟨hb.os, hb.tape, hb.output, hb.size, fun k hk _ => hb.block k hk, fun k o ho => ⟨o, by rw [hb.block k (lt_of_obj ho)]; exact ho, Sh.refl o⟩⟩,
    ⟨h.len, h.nd, h.gl, fun i b hi => by
      obtain ⟨n, o, h1, h2, h3⟩ := h.blk i b hi
      exact ⟨n, o, h1, by rw [hb.block _ (lt_of_obj h2)]; exact h2, h3⟩⟩⟩
theorem tabOk (v : Env) : TabOk cx v := by
  intro f args x h ρ s w L hR hL
  change tabF f args = some x at h
  unfold tabF at h
  split at h
  · rename_i n hf
    have hf : f = 35 := Nat.eq_of_beq_eq_true hf
    subst hf
    obtain ⟨h1, h2⟩ := wTab_ok _ (wFind_mem h)
    simp only [SV.denL, SV.den, Option.bind_some, Option.map_some, Option.some.injEq, E.i] at hL
    subst hL
    have hw := word_any (BitVec.ofInt 32 n) w
    have e : (#[U (BitVec.ofInt 32 n)] : Array Value) = [Value.int .u32 n].toArray := by
      have : U (BitVec.ofInt 32 n) = .int .u32 n := by unfold U; rw [h2]
      rw [this]
    rw [e] at hw
    refine hw.mono fun e w' ⟨he, hb⟩ => ?_
    obtain ⟨k1, k2⟩ := rep_below hR hb
    exact ⟨_, he, (congrArg (SV.den ρ v) h1).symm.trans (wOf_den ρ v _), k1, k2⟩
  · cases h
/-- The package's variables. -/
def lits (l : List Int) : List SV := l.map fun n => .int .u32 (.lit n)
def stG : St := [.row (lits [11, 3, 7, 9, 1, 5]) 85, .row (lits [1, 5, 7]) 116, .row (lits [0, 4, 6]) 116]
def rhoG : Rho := [(0, 0), (1, 0), (2, 0)]
structure Gl (W : World) : Prop where
  g0 : W.heap[0]? = some (.cells #[.int .u32 11, .int .u32 3, .int .u32 7, .int .u32 9, .int .u32 1, .int .u32 5] (/-T-/ 85))
  g1 : W.heap[1]? = some (.cells #[.int .u32 1, .int .u32 5, .int .u32 7] (/-T-/ 116))
  g2 : W.heap[2]? = some (.cells #[.int .u32 0, .int .u32 4, .int .u32 6] (/-T-/ 116))
theorem Gl.rep {W : World} (h : Gl W) (v : Env) : Rep cx rhoG v stG W := by
  refine ⟨rfl, by decide, fun i g hg => ?_, fun i b hb => ?_⟩
  · match i with
    | 0 => have : g = 0 := (Option.some.inj hg).symm; subst this; rfl
    | 1 => have : g = 1 := (Option.some.inj hg).symm; subst this; rfl
    | 2 => have : g = 2 := (Option.some.inj hg).symm; subst this; rfl
    | i + 3 => simp [cx] at hg
  · match i with
    | 0 => have := (Option.some.inj hb).symm; subst this; exact ⟨(0, 0), _, rfl, h.g0, _, [], rfl, rfl⟩
    | 1 => have := (Option.some.inj hb).symm; subst this; exact ⟨(1, 0), _, rfl, h.g1, _, [], rfl, rfl⟩
    | 2 => have := (Option.some.inj hb).symm; subst this; exact ⟨(2, 0), _, rfl, h.g2, _, [], rfl, rfl⟩
    | i + 3 => simp [stG] at hb
/-- A block that holds the same values, and has the same size, is the same. -/
theorem same_block {cs : Array Value} {t : TypeId} {ρ : Rho} {v : Env} {cells : List SV} {o : Obj} (hL : SV.denL ρ v cells = some cs.toList) (hb : (Blk.row cells t).holds ρ v o) (hs : Sh (.cells cs t) o) : o = .cells cs t := by
  obtain ⟨L, X, h1, rfl⟩ := hb
  rw [hL] at h1
  injection h1 with h1
  subst h1
  obtain ⟨c', e, hz⟩ := hs
  injection e with e _ _
  subst e
  have : X = [] := by
    have : (cs.toList ++ X).length = cs.toList.length := by simpa using hz
    rw [List.length_append] at this
    exact List.eq_nil_of_length_eq_zero (by omega)
  subst this
  simp
/-- At the end of a call the world is the old one, and new blocks. -/
theorem Gl.below {W W' : World} {v : Env} {ρ' : Rho} (h : Gl W) (ho : Out rhoG W ρ' W') (hr : Rep cx ρ' v stG W') : Below W.heap.size W W' := by
  refine ⟨ho.keeps.os, ho.keeps.tape, ho.keeps.output, ho.keeps.size, fun k hk => ?_⟩
  obtain ⟨⟨ns, rfl, _⟩, hkp⟩ := ho
  have hlen := hr.len
  have hns : ns = [] := by
    have : stG.length = rhoG.length + ns.length := by rw [hlen, List.length_append]
    have h3 : (3 : Nat) = 3 + ns.length := this
    exact List.eq_nil_of_length_eq_zero (by omega)
  subst hns
  rw [List.append_nil] at hr
  have key : ∀ (k : Nat) (cs : Array Value) (t : TypeId) (cells : List SV), W.heap[k]? = some (.cells cs t) → stG[k]? = some (.row cells t) → rhoG[k]? = some (k, 0) → SV.denL rhoG v cells = some cs.toList → W'.heap[k]? = W.heap[k]? := by
    intro k cs t cells h1 h2 h3 h4
    obtain ⟨n, o, h5, h6, h7⟩ := hr.blk k _ h2
    rw [h3] at h5
    injection h5 with h5
    subst h5
    obtain ⟨o', h8, h9⟩ := hkp.shape k _ h1
    have h6 : W'.heap[k]? = some o := h6
    rw [h6] at h8
    injection h8 with h8
    subst h8
    rw [h6, h1, same_block h4 h7 h9]
  by_cases h0 : k = 0
  · subst h0; exact key 0 _ _ _ h.g0 rfl rfl rfl
  by_cases h1 : k = 1
  · subst h1; exact key 1 _ _ _ h.g1 rfl rfl rfl
  by_cases h2 : k = 2
  · subst h2; exact key 2 _ _ _ h.g2 rfl rfl rfl
  exact hkp.heap k hk (by simp [rhoG]; omega)
/-- A law that comes to true, the package's variables as they were. -/
theorem law_true {f : FuncId} {args : List SV} {n : Nat} {p : Path} {v : Env} {L : List Value} {W : World} {e : E} (h : Gl W) (hL : SV.denL rhoG v args = some L) (hp : PathOk v p)
    (he : (evF cx n f args stG p).pick v = some ⟨.ret (.bool e), stG⟩) (ht : e.b v = true) : Calls Tryz.prog f L.toArray W fun e W' => e = .returned (.bool true) ∧ Below W.heap.size W W' := by
  refine (evF_ok fit (tabOk v) hL (h.rep v) hp he).mono fun e' W' ⟨ρ', ho, hr, V, hV, e2⟩ => ?_
  subst e2
  simp only [SV.den, ht, Option.some.injEq] at hV
  subst hV
  exact ⟨rfl, h.below ho hr⟩
end Go.Proofs.YtancmkdmlghlpaaGreatDoor
