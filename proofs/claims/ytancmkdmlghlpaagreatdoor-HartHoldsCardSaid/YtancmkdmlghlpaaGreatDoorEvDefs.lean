/- A reckoner of Go's text on numbers that are letters: expressions, values, blocks, trees of cases. No statement is proved here. -/
import Derived.Tactics
import Derived.LoopN
import Derived.Scope
import Derived.StillTail
import Derived.Deep.MidRow
import Derived.Laws.CopyRow
import Derived.KernelRfl
namespace Go.Proofs.YtancmkdmlghlpaaGreatDoor.Ev
open Go

/-- Expressions over integers and truth values. -/
inductive E where
  | lit (n : Int)
  | var (i : Nat)
  | vat (b : Nat) (e : E)
  | bin (op : BinOp) (k : IntKind) (a b : E)
  | cv (k : IntKind) (a : E)
  | ite (c a b : E)
  | blit (b : Bool)
  | bvar (i : Nat)
  | cmp (op : BinOp) (a b : E)
  | not (a : E)
  | and (a b : E)
  | beq (a b : E)
  | inr (a b : E)
  | fi (f : Nat) (a b c : E)
  | fb (f : Nat) (a b c : E)

structure Env where
  vi : Nat → Int
  vb : Nat → Bool
  vv : Nat → Value
  fi : Nat → Int → Int → Int → Int
  fb : Nat → Int → Int → Int → Bool

def binI (op : BinOp) (k : IntKind) (x y : Int) : Int :=
  match op with
  | .add => k.wrap (x + y)
  | .sub => k.wrap (x - y)
  | .mul => k.wrap (x * y)
  | .quo => k.wrap (x.tdiv y)
  | .rem => x.tmod y
  | .and => k.wrap ((BitVec.ofInt k.bits x &&& BitVec.ofInt k.bits y).toNat : Int)
  | .or => k.wrap ((BitVec.ofInt k.bits x ||| BitVec.ofInt k.bits y).toNat : Int)
  | .xor => k.wrap ((BitVec.ofInt k.bits x ^^^ BitVec.ofInt k.bits y).toNat : Int)
  | .andNot => k.wrap ((BitVec.ofInt k.bits x &&& ~~~BitVec.ofInt k.bits y).toNat : Int)
  | .shl => k.wrap (x * 2 ^ (min y.toNat k.bits))
  | .shr => x.fdiv (2 ^ (min y.toNat k.bits))
  | _ => 0

def cmpB (op : BinOp) (x y : Int) : Bool :=
  match op with
  | .eql => x == y
  | .lss => decide (x < y)
  | _ => false

mutual
def E.i (v : Env) : E → Int
  | .lit n => n
  | .var i => v.vi i
  | .vat b e => v.vi (b + (E.i v e).toNat)
  | .bin op k a b => binI op k (E.i v a) (E.i v b)
  | .cv k a => k.wrap (E.i v a)
  | .ite c a b => bif E.b v c then E.i v a else E.i v b
  | .fi f a b c => v.fi f (E.i v a) (E.i v b) (E.i v c)
  | _ => 0
def E.b (v : Env) : E → Bool
  | .blit b => b
  | .bvar i => v.vb i
  | .cmp op a b => cmpB op (E.i v a) (E.i v b)
  | .not a => !(E.b v a)
  | .and a b => E.b v a && E.b v b
  | .beq a b => E.b v a == E.b v b
  | .inr a b => decide (0 ≤ E.i v a ∧ E.i v a < E.i v b)
  | .ite c a b => bif E.b v c then E.b v a else E.b v b
  | .fb f a b c => v.fb f (E.i v a) (E.i v b) (E.i v c)
  | _ => false
end

def kindEq : IntKind → IntKind → Bool := fun a b => decide (a = b)
def E.eqb : E → E → Bool
  | .lit n, .lit m => decide (n = m)
  | .var i, .var j => Nat.beq i j
  | .vat b e, .vat c f => Nat.beq b c && E.eqb e f
  | .bin o k a b, .bin p l c d => decide (o = p) && kindEq k l && E.eqb a c && E.eqb b d
  | .cv k a, .cv l b => kindEq k l && E.eqb a b
  | .ite c a b, .ite d x y => E.eqb c d && E.eqb a x && E.eqb b y
  | .blit a, .blit b => a == b
  | .bvar i, .bvar j => Nat.beq i j
  | .cmp o a b, .cmp p c d => decide (o = p) && E.eqb a c && E.eqb b d
  | .not a, .not b => E.eqb a b
  | .and a b, .and c d => E.eqb a c && E.eqb b d
  | .beq a b, .beq c d => E.eqb a c && E.eqb b d
  | .inr a b, .inr c d => E.eqb a c && E.eqb b d
  | .fi f a b c, .fi g x y z => Nat.beq f g && E.eqb a x && E.eqb b y && E.eqb c z
  | .fb f a b c, .fb g x y z => Nat.beq f g && E.eqb a x && E.eqb b y && E.eqb c z
  | _, _ => false

theorem E.eq_of_eqb : ∀ {a b : E}, E.eqb a b = true → a = b := by
  intro a
  induction a <;> intro b h <;> cases b <;> simp [E.eqb, kindEq] at h <;> (try (obtain ⟨h1, h2⟩ := h)) <;> simp_all <;> grind

/-! ### clever makers -/
def mkBin (op : BinOp) (k : IntKind) (a b : E) : E :=
  match op, a, b with
  | op, .lit x, .lit y => .lit (binI op k x y)
  | .and, .lit 0, _ => .lit 0
  | .and, _, .lit 0 => .lit 0
  | op, a, b => .bin op k a b
theorem mkBin_i (v : Env) (op k a b) : (mkBin op k a b).i v = binI op k (a.i v) (b.i v) := by
  unfold mkBin; split
  · simp [E.i]
  · simp only [E.i, binI]
    rw [show BitVec.ofInt k.bits 0 = 0#k.bits from BitVec.ofInt_natCast k.bits 0, BitVec.zero_and, BitVec.toNat_zero]
    cases k <;> rfl
  · simp only [E.i, binI]
    rw [show BitVec.ofInt k.bits 0 = 0#k.bits from BitVec.ofInt_natCast k.bits 0, BitVec.and_zero, BitVec.toNat_zero]
    cases k <;> rfl
  · simp [E.i]
def unsignedB (k : IntKind) : Bool := !k.signed
/-- Does kind k hold all that kind j holds? -/
def holdsKind (k j : IntKind) : Bool :=
  match j.signed, k.signed with
  | true, true => decide (j.bits ≤ k.bits)
  | true, false => false
  | false, false => decide (j.bits ≤ k.bits)
  | false, true => decide (j.bits < k.bits)
/-- A kind whose range the expression surely keeps. -/
def E.kind : E → Option IntKind
  | .bin .shr _ a _ => match a.kind with | some k => bif unsignedB k then some k else none | none => none
  | .bin .rem _ _ _ => none
  | .bin .add k _ _ | .bin .sub k _ _ | .bin .mul k _ _ | .bin .quo k _ _ | .bin .and k _ _ | .bin .or k _ _ | .bin .xor k _ _ | .bin .andNot k _ _ | .bin .shl k _ _ => some k
  | .cv k _ => some k
  | _ => none
def InKind (k : IntKind) (n : Int) : Prop := k.wrap n = n
theorem wrap_wrap (k : IntKind) (n : Int) : k.wrap (k.wrap n) = k.wrap n := by
  cases k <;> simp [IntKind.wrap, IntKind.bits, IntKind.signed] <;> (repeat' split) <;> omega
theorem inKind_iff (k : IntKind) (n : Int) : InKind k n ↔ (if k.signed then -(2 ^ (k.bits - 1) : Int) ≤ n ∧ n < 2 ^ (k.bits - 1) else 0 ≤ n ∧ n < 2 ^ k.bits) := by
  unfold InKind
  cases k <;> simp [IntKind.wrap, IntKind.bits, IntKind.signed] <;> (repeat' split) <;> omega
theorem holdsKind_ok {k j : IntKind} (h : holdsKind k j = true) {n : Int} (hn : InKind j n) : InKind k n := by
  rw [inKind_iff] at hn ⊢
  cases k <;> cases j <;> simp [holdsKind, IntKind.signed, IntKind.bits] at h hn ⊢ <;> omega
theorem E.kind_i (v : Env) : ∀ {e : E} {k : IntKind}, e.kind = some k → InKind k (e.i v) := by
  intro e
  induction e <;> intro k h <;> try simp [E.kind] at h
  · rename_i op j a b iha ihb
    cases op <;> try simp [E.kind] at h
    all_goals first
      | (subst h; exact wrap_wrap _ _)
      | skip
    cases e : a.kind with
    | none => simp [e] at h
    | some k' =>
      simp only [e] at h
      cases hu : unsignedB k'
      · simp [hu] at h
      · simp only [hu, cond_true, Option.some.injEq] at h
        subst h
        have := iha e
        have hs : k'.signed = false := by simpa [unsignedB] using hu
        rw [inKind_iff, hs] at this ⊢
        simp only [Bool.false_eq_true, if_false] at this ⊢
        simp only [E.i, binI]
        have hp : (1 : Int) ≤ 2 ^ (min (b.i v).toNat j.bits) := Int.pow_pos (by decide)
        generalize (2 ^ (min (b.i v).toNat j.bits) : Int) = q at *
        rw [Int.fdiv_eq_ediv_of_nonneg _ (by omega)]
        exact ⟨Int.ediv_nonneg this.1 (by omega), Int.lt_of_le_of_lt (Int.ediv_le_self _ this.1) this.2⟩
  · subst h; exact wrap_wrap _ _
def mkCv (k : IntKind) (a : E) : E :=
  match a with
  | .lit x => .lit (k.wrap x)
  | a => match a.kind with
    | some j => bif holdsKind k j then a else .cv k a
    | none => .cv k a
theorem mkCv_i (v : Env) (k a) : (mkCv k a).i v = k.wrap (a.i v) := by
  unfold mkCv; split
  · simp [E.i]
  · split
    · rename_i j e
      cases h : holdsKind k j
      · simp [E.i]
      · exact (holdsKind_ok h (E.kind_i v e)).symm
    · simp [E.i]
def mkNot : E → E
  | .blit b => .blit (!b)
  | .not a => a
  | a => .not a
theorem mkNot_b (v : Env) (a) : (mkNot a).b v = !(a.b v) := by
  unfold mkNot; split <;> simp [E.b]
def mkAnd : E → E → E
  | .blit true, b => b
  | .blit false, _ => .blit false
  | a, .blit true => a
  | _, .blit false => .blit false
  | a, b => .and a b
theorem mkAnd_b (v : Env) (a b) : (mkAnd a b).b v = (a.b v && b.b v) := by
  unfold mkAnd; split <;> simp [E.b]
def mkBeq : E → E → E
  | .blit a, .blit b => .blit (a == b)
  | a, .blit true => a
  | a, .blit false => mkNot a
  | .blit true, b => b
  | .blit false, b => mkNot b
  | a, b => bif a.eqb b then .blit true else .beq a b
theorem mkBeq_b (v : Env) (a b) : (mkBeq a b).b v = (a.b v == b.b v) := by
  unfold mkBeq; split <;> try (simp [E.b, mkNot_b]; done)
  cases h : E.eqb a b
  · simp [E.b]
  · have := E.eq_of_eqb h; subst this; simp [E.b]
def mkCmp0 (op : BinOp) : E → E → E
  | .lit x, .lit y => .blit (cmpB op x y)
  | a, b => bif a.eqb b then .blit (match op with | .eql => true | _ => false) else .cmp op a b
theorem mkCmp0_b (v : Env) (op a b) : (mkCmp0 op a b).b v = cmpB op (a.i v) (b.i v) := by
  unfold mkCmp0; split
  · simp [E.b, E.i]
  · cases h : E.eqb a b
    · simp [E.b]
    · have := E.eq_of_eqb h; subst this; cases op <;> simp [E.b, cmpB]
/-- A comparison of Go's, by '==' and '<'. -/
def cmpG (op : BinOp) (x y : Int) : Bool :=
  match op with
  | .eql => x == y
  | .neq => x != y
  | .lss => decide (x < y)
  | .leq => decide (x ≤ y)
  | .gtr => decide (x > y)
  | .geq => decide (x ≥ y)
  | _ => false
def mkCmp : BinOp → E → E → E
  | .neq, a, b => mkNot (mkCmp0 .eql a b)
  | .leq, a, b => mkNot (mkCmp0 .lss b a)
  | .gtr, a, b => mkCmp0 .lss b a
  | .geq, a, b => mkNot (mkCmp0 .lss a b)
  | op, a, b => mkCmp0 op a b
theorem mkCmp_b (v : Env) (op a b) (h : op ∈ [BinOp.eql, .neq, .lss, .leq, .gtr, .geq]) : (mkCmp op a b).b v = cmpG op (a.i v) (b.i v) := by
  cases op <;> simp at h <;> simp [mkCmp, mkNot_b, mkCmp0_b, cmpB, cmpG]
  all_goals first | (simp [bne]; done) | (rw [Bool.eq_iff_iff]; simp)
def mkInr (a b : E) : E :=
  match a, b with
  | .lit x, .lit y => .blit (decide (0 ≤ x ∧ x < y))
  | a, b => .inr a b
theorem mkInr_b (v : Env) (a b) : (mkInr a b).b v = decide (0 ≤ a.i v ∧ a.i v < b.i v) := by
  unfold mkInr; split <;> simp only [E.b, E.i] <;> congr
def mkIteE (c a b : E) : E :=
  match c with
  | .blit true => a
  | .blit false => b
  | c => bif a.eqb b then a else .ite c a b
theorem mkIteE_i (v : Env) (c a b) : (mkIteE c a b).i v = bif c.b v then a.i v else b.i v := by
  unfold mkIteE; split <;> try (simp [E.b]; done)
  cases h : E.eqb a b
  · simp [E.i]
  · have := E.eq_of_eqb h; subst this; simp
def iteB0 (c a b : E) : E := bif a.eqb b then a else .ite c a b
theorem iteB0_b (v : Env) (c a b : E) : (iteB0 c a b).b v = bif c.b v then a.b v else b.b v := by
  unfold iteB0
  cases h : E.eqb a b
  · simp [E.b]
  · have := E.eq_of_eqb h; subst this; simp
def mkIteB (c a b : E) : E :=
  match c, a, b with
  | .blit true, a, _ => a
  | .blit false, _, b => b
  | c, .blit true, .blit false => c
  | c, .blit false, .blit true => mkNot c
  | c, .blit false, b => mkAnd (mkNot c) b
  | c, a, .blit false => mkAnd c a
  | c, a, b => iteB0 c a b
theorem mkIteB_b (v : Env) (c a b) : (mkIteB c a b).b v = bif c.b v then a.b v else b.b v := by
  unfold mkIteB; split
  · simp [E.b]
  · simp [E.b]
  · simp [E.b]
  · simp [E.b, mkNot_b]
  · simp [E.b, mkNot_b, mkAnd_b]
  · simp [E.b, mkAnd_b]
  · exact iteB0_b ..
/-- Surely not negative? -/
def E.nonneg : E → Bool
  | .lit n => decide (0 ≤ n)
  | .bin .shr _ a _ => a.nonneg
  | .bin .rem _ a _ => a.nonneg
  | .bin .add k _ _ | .bin .sub k _ _ | .bin .mul k _ _ | .bin .quo k _ _ | .bin .and k _ _ | .bin .or k _ _ | .bin .xor k _ _ | .bin .andNot k _ _ | .bin .shl k _ _ => unsignedB k
  | .cv k _ => unsignedB k
  | .ite _ a b => a.nonneg && b.nonneg
  | _ => false
theorem wrap_nonneg {k : IntKind} (h : unsignedB k = true) (n : Int) : 0 ≤ k.wrap n := by
  unfold unsignedB at h
  unfold IntKind.wrap
  have : k.signed = false := by simpa using h
  simp only [this, Bool.false_and, Bool.false_eq_true, if_false]
  exact Int.emod_nonneg _ (by cases k <;> decide)
theorem E.nonneg_i (v : Env) : ∀ {e : E}, e.nonneg = true → 0 ≤ e.i v := by
  intro e
  induction e <;> intro h <;> try simp [E.nonneg] at h
  · simpa [E.i] using h
  · rename_i op k a b iha ihb
    cases op <;> (try simp [E.nonneg] at h) <;> simp only [E.i, binI] <;> first
      | exact wrap_nonneg h _
      | exact Int.tmod_nonneg _ (iha h)
      | exact Int.fdiv_nonneg (iha h) (Int.le_of_lt (Int.pow_pos (by decide)))
  · simp only [E.i]; exact wrap_nonneg h _
  · rename_i c a b _ iha ihb
    simp only [E.i]
    cases c.b v <;> simp
    · exact ihb h.2
    · exact iha h.1
/-- A small upper bound. -/
def E.ub : E → Option Nat
  | .lit n => if 0 ≤ n ∧ n ≤ 127 then some n.toNat else none
  | .bin .and _ _ (.lit m) => if 0 ≤ m ∧ m ≤ 127 then some m.toNat else none
  | .bin .mul _ a (.lit m) => if 0 ≤ m ∧ m ≤ 127 then (match a.ub with | some x => if x * m.toNat ≤ 127 then some (x * m.toNat) else none | none => none) else none
  | .cv _ a => a.ub
  | .ite _ a b => match a.ub, b.ub with
    | some x, some y => some (max x y)
    | _, _ => none
  | _ => none
theorem wrap_small {k : IntKind} {n : Int} (h : 0 ≤ n ∧ n ≤ 127) : k.wrap n = n := by
  unfold IntKind.wrap
  cases k <;> simp [IntKind.bits, IntKind.signed] <;> omega
theorem E.ub_i (v : Env) : ∀ {e : E} {m : Nat}, e.ub = some m → 0 ≤ e.i v ∧ e.i v ≤ m ∧ m ≤ 127 := by
  intro e
  induction e <;> intro m h <;> try simp [E.ub] at h
  · obtain ⟨h1, rfl⟩ := h
    simp only [E.i]; omega
  · rename_i op k a b iha ihb
    cases op <;> try simp [E.ub] at h
    · cases b <;> try simp [E.ub] at h
      rename_i q
      obtain ⟨h1, h⟩ := h
      cases hx : a.ub with
      | none => simp [hx] at h
      | some x =>
      simp only [hx] at h
      split at h
      case isFalse => simp at h
      rename_i h2
      simp only [Option.some.injEq] at h
      subst h
      have := iha hx
      simp only [E.i, binI]
      have h3 : 0 ≤ a.i v * q := Int.mul_nonneg this.1 h1.1
      have h4 : a.i v * q ≤ ((x * q.toNat : Nat) : Int) := by
        have : a.i v * q ≤ (x : Int) * q := Int.mul_le_mul_of_nonneg_right this.2.1 h1.1
        rw [Int.natCast_mul, Int.toNat_of_nonneg h1.1]; exact this
      rw [wrap_small (by omega)]
      omega
    cases b <;> try simp [E.ub] at h
    rename_i q
    obtain ⟨h1, rfl⟩ := h
    simp only [E.i, binI]
    have hle : (BitVec.ofInt k.bits (a.i v) &&& BitVec.ofInt k.bits q).toNat ≤ q.toNat := by
      rw [BitVec.toNat_and]
      refine Nat.le_trans Nat.and_le_right ?_
      rw [BitVec.toNat_ofInt]
      have : q % ((2 ^ k.bits : Nat) : Int) = q := Int.emod_eq_of_lt h1.1 (by cases k <;> simp [IntKind.bits] <;> omega)
      rw [this]; omega
    rw [wrap_small (by omega)]
    omega
  · rename_i k a iha
    have := iha h
    simp only [E.i]
    rw [wrap_small (by omega)]
    exact this
  · rename_i c a b _ iha ihb
    cases ha : a.ub with
    | none => simp [ha] at h
    | some x => cases hb : b.ub with
      | none => simp [ha, hb] at h
      | some y =>
        simp only [ha, hb, Option.some.injEq] at h
        have h1 := iha ha
        have h2 := ihb hb
        simp only [E.i]
        cases c.b v <;> simp <;> omega

/-! ### what is known on a way -/
abbrev Path := List (E × Bool)
def PathOk (v : Env) (p : Path) : Prop := ∀ x ∈ p, x.1.b v = x.2
def lookP (c : E) : Path → Option Bool
  | [] => none
  | (d, b) :: p => bif d.eqb c then some b else lookP c p
theorem lookP_ok {v : Env} {c : E} : ∀ {p : Path} {b : Bool}, PathOk v p → lookP c p = some b → c.b v = b
  | [], _, _, h => by simp [lookP] at h
  | (d, x) :: p, b, hp, h => by
    unfold lookP at h
    cases e : E.eqb d c
    · simp only [e, cond_false] at h
      exact lookP_ok (fun y hy => hp y (by simp [hy])) h
    · simp only [e, cond_true, Option.some.injEq] at h
      have := E.eq_of_eqb e
      subst this h
      exact hp (d, x) (by simp)
theorem PathOk.cons {v : Env} {p : Path} {c : E} {b : Bool} (h : c.b v = b) (hp : PathOk v p) : PathOk v ((c, b) :: p) := by
  intro x hx
  simp at hx
  rcases hx with rfl | hx
  · exact h
  · exact hp x hx
/-- A remainder that the path tells. -/
def knownIn (e : E) : Path → E
  | [] => e
  | (.cmp .eql a (.lit n), true) :: p => bif a.eqb e then .lit n else knownIn e p
  | _ :: p => knownIn e p
def knownE (p : Path) (e : E) : E :=
  match e with
  | .bin .rem _ _ _ => knownIn e p
  | _ => e
theorem knownIn_i {v : Env} {e : E} : ∀ {p : Path}, PathOk v p → (knownIn e p).i v = e.i v
  | [], _ => rfl
  | (c, b) :: p, hp => by
    have ih := knownIn_i (e := e) (p := p) (fun x hx => hp x (List.mem_cons_of_mem _ hx))
    unfold knownIn
    split
    · rfl
    · rename_i a n _ heq
      injection heq with h1 h2
      injection h1 with h3 h4
      subst h3; subst h4; subst h2
      cases ha : a.eqb e
      · exact ih
      · have h5 := E.eq_of_eqb ha
        subst h5
        have := hp _ List.mem_cons_self
        simp only [E.b, cmpB, E.i, beq_iff_eq] at this
        simp only [cond_true, E.i]
        exact this.symm
    · rename_i heq
      injection heq with h1 h2
      subst h2
      exact ih
theorem knownE_i {v : Env} {p : Path} (hp : PathOk v p) (e : E) : (knownE p e).i v = e.i v := by
  unfold knownE
  split
  · exact knownIn_i hp
  · rfl
def decideP (c : E) (p : Path) : Option Bool :=
  match c with
  | .blit b => some b
  | .not a => (lookP a p).map (!·)
  | .cmp .lss a (.lit 0) => bif a.nonneg || a.ub.isSome then some false else lookP c p
  | .inr a (.lit n) => match a.ub with
    | some m => if (m : Int) < n then some true else lookP c p
    | none => lookP c p
  | .inr a b => if a.nonneg = true ∧ lookP (.cmp .lss a b) p = some true then some true else lookP c p
  | c => lookP c p
theorem decideP_ok {v : Env} {c : E} {p : Path} {b : Bool} (hp : PathOk v p) (h : decideP c p = some b) : c.b v = b := by
  unfold decideP at h
  split at h
  · simp_all [E.b]
  · rename_i a
    cases e : lookP a p with
    | none => simp [e] at h
    | some x => simp [e] at h; subst h; simp [E.b, lookP_ok hp e]
  · rename_i a
    cases e : a.nonneg || a.ub.isSome
    · simp only [e, cond_false] at h; exact lookP_ok hp h
    · simp only [e, cond_true, Option.some.injEq] at h
      subst h
      have : 0 ≤ a.i v := by
        cases e1 : a.nonneg
        · simp only [e1, Bool.false_or, Option.isSome_iff_exists] at e
          obtain ⟨m, hm⟩ := e
          exact (E.ub_i v hm).1
        · exact E.nonneg_i v e1
      simp only [E.b, E.i, cmpB]; exact decide_eq_false (by omega)
  · rename_i a n
    cases e : a.ub with
    | none => simp only [e] at h; exact lookP_ok hp h
    | some m =>
      simp only [e] at h
      split at h
      · simp only [Option.some.injEq] at h
        subst h
        have := E.ub_i v e
        simp only [E.b, E.i]; exact decide_eq_true (by omega)
      · exact lookP_ok hp h
  · rename_i a b _
    split at h
    · rename_i hc
      simp only [Option.some.injEq] at h
      subst h
      have h1 := E.nonneg_i v hc.1
      have h2 := lookP_ok hp hc.2
      simp only [E.b, cmpB, decide_eq_true_eq] at h2 ⊢
      exact ⟨h1, h2⟩
    · exact lookP_ok hp h
  · exact lookP_ok hp h

/-! ### trees of cases -/
inductive T (α : Type) where
  | leaf (a : α)
  | ite (c : E) (t e : T α)
  | fail (n : Nat)
def T.pick {α : Type} (v : Env) : T α → Option α
  | .leaf a => some a
  | .ite c t e => bif c.b v then t.pick v else e.pick v
  | .fail _ => none
def mkIf {α : Type} (c : E) (p : Path) (t e : Path → T α) : T α :=
  match decideP c p with
  | some true => t p
  | some false => e p
  | none =>
    match c with
    | .not a => .ite a (e ((a, true) :: p)) (t ((a, false) :: p))
    | c => .ite c (t ((c, true) :: p)) (e ((c, false) :: p))
theorem pick_mkIf {α : Type} {v : Env} {c : E} {p : Path} {t e : Path → T α} {x : α} (hp : PathOk v p) (h : (mkIf c p t e).pick v = some x) :
    ∃ p', PathOk v p' ∧ ((c.b v = true ∧ (t p').pick v = some x) ∨ (c.b v = false ∧ (e p').pick v = some x)) := by
  unfold mkIf at h
  cases hd : decideP c p with
  | some b =>
    have := decideP_ok hp hd
    cases b <;> simp only [hd] at h
    · exact ⟨p, hp, Or.inr ⟨this, h⟩⟩
    · exact ⟨p, hp, Or.inl ⟨this, h⟩⟩
  | none =>
    simp only [hd] at h
    split at h
    · rename_i a
      simp only [T.pick] at h
      cases ha : a.b v
      · simp only [ha, cond_false] at h
        exact ⟨_, hp.cons ha, Or.inl ⟨by simp [E.b, ha], h⟩⟩
      · simp only [ha, cond_true] at h
        exact ⟨_, hp.cons ha, Or.inr ⟨by simp [E.b, ha], h⟩⟩
    · simp only [T.pick] at h
      cases ha : c.b v
      · simp only [ha, cond_false] at h
        exact ⟨_, hp.cons ha, Or.inr ⟨rfl, h⟩⟩
      · simp only [ha, cond_true] at h
        exact ⟨_, hp.cons ha, Or.inl ⟨rfl, h⟩⟩
def T.bnd {α β : Type} : T α → Path → (α → Path → T β) → T β
  | .leaf a, p, k => k a p
  | .ite c t e, p, k => .ite c (t.bnd ((c, true) :: p) k) (e.bnd ((c, false) :: p) k)
  | .fail n, _, _ => .fail n
theorem pick_bnd {α β : Type} {v : Env} {k : α → Path → T β} {x : β} : ∀ {t : T α} {p : Path}, PathOk v p → (t.bnd p k).pick v = some x →
    ∃ a p', t.pick v = some a ∧ PathOk v p' ∧ (k a p').pick v = some x
  | .leaf a, p, hp, h => ⟨a, p, rfl, hp, h⟩
  | .fail _, _, _, h => by simp [T.bnd, T.pick] at h
  | .ite c t e, p, hp, h => by
    simp only [T.bnd, T.pick] at h
    cases hc : c.b v
    · simp only [hc, cond_false] at h
      obtain ⟨a, p', h1, h2, h3⟩ := pick_bnd (hp.cons hc) h
      exact ⟨a, p', by simp [T.pick, hc, h1], h2, h3⟩
    · simp only [hc, cond_true] at h
      obtain ⟨a, p', h1, h2, h3⟩ := pick_bnd (hp.cons hc) h
      exact ⟨a, p', by simp [T.pick, hc, h1], h2, h3⟩

/-! ### values -/
inductive SV where
  | int (k : IntKind) (e : E)
  | bool (e : E)
  | ptr (n o : Nat)
  | ptrx (n o st cnt : Nat) (e : E)
  | ptra (n o : Nat) (e : E)
  | nilp
  | slice (n o l c : Nat)
  | slicex (n o : Nat) (l c : E)
  | slicec (n o : Nat) (l : E)
  | nilslice
  | str (s : List UInt8)
  | agg (l : List SV)
  | tuple (l : List SV)
  | func (fn : Fn) (a b : List SV)
  | nilFunc
  | nilIface
  | iface (t : TypeId) (x : SV)
  | nilmap
  | opq (i : Nat)
  | any

/-- Where the named blocks lie, and a number to each (a capacity). -/
abbrev Rho := List (Nat × Nat)
mutual
def SV.den (ρ : Rho) (v : Env) : SV → Option Value
  | .int k e => some (.int k (e.i v))
  | .bool e => some (.bool (e.b v))
  | .ptr n o => (ρ[n]?).map fun b => .pointer (some ⟨b.1, o, none⟩)
  | .ptrx n o st _ e => (ρ[n]?).map fun b => .pointer (some ⟨b.1, o + (e.i v).toNat * st, none⟩)
  | .ptra n o e => (ρ[n]?).map fun b => .pointer (some ⟨b.1, o + (e.i v).toNat, none⟩)
  | .nilp => some (.pointer none)
  | .slice n o l c => (ρ[n]?).map fun b => .slice (some ⟨b.1, o, none⟩) l c
  | .slicex n o l c => (ρ[n]?).map fun b => .slice (some ⟨b.1, o, none⟩) (l.i v).toNat (c.i v).toNat
  | .slicec n o l => (ρ[n]?).map fun b => .slice (some ⟨b.1, o, none⟩) (l.i v).toNat b.2
  | .nilslice => some (.slice none 0 0)
  | .str s => some (.string ⟨s.toArray⟩)
  | .agg l => (SV.denL ρ v l).map fun l => .agg l.toArray
  | .tuple l => (SV.denL ρ v l).map fun l => .tuple l.toArray
  | .func fn a b => (SV.denL ρ v a).bind fun a => (SV.denL ρ v b).map fun b => .func fn a.toArray b.toArray
  | .nilFunc => some .nilFunc
  | .nilIface => some .nilIface
  | .iface t x => (SV.den ρ v x).map (.iface t)
  | .nilmap => some (.map none)
  | .opq i => bif (v.vv i).oneCell' then some (v.vv i) else none
  | .any => none
def SV.denL (ρ : Rho) (v : Env) : List SV → Option (List Value)
  | [] => some []
  | x :: l => (SV.den ρ v x).bind fun a => (SV.denL ρ v l).map (a :: ·)
end
abbrev SV.undef : SV := .tuple []
/-- One cell? -/
def SV.one : SV → Bool
  | .agg _ | .tuple _ | .any => false
  | _ => true
def SV.cells : SV → List SV
  | .agg l => l
  | x => [x]

mutual
def SV.eqb : SV → SV → Bool
  | .int k e, .int l f => kindEq k l && e.eqb f
  | .bool e, .bool f => e.eqb f
  | .ptr n o, .ptr m p => Nat.beq n m && Nat.beq o p
  | .nilp, .nilp => true
  | .nilFunc, .nilFunc => true
  | .nilIface, .nilIface => true
  | .nilslice, .nilslice => true
  | .nilmap, .nilmap => true
  | .slice n o l c, .slice m p k d => Nat.beq n m && Nat.beq o p && Nat.beq l k && Nat.beq c d
  | .slicec n o l, .slicec m p k => Nat.beq n m && Nat.beq o p && E.eqb l k
  | .slicex n o l c, .slicex m p k d => Nat.beq n m && Nat.beq o p && E.eqb l k && E.eqb c d
  | .ptra n o e, .ptra m p f => Nat.beq n m && Nat.beq o p && E.eqb e f
  | .ptrx n o a b e, .ptrx m p c d f => Nat.beq n m && Nat.beq o p && Nat.beq a c && Nat.beq b d && E.eqb e f
  | .str a, .str b => decide (a = b)
  | .func f a b, .func g c d => decide (f = g) && SV.eqbL a c && SV.eqbL b d
  | .opq i, .opq j => Nat.beq i j
  | .iface t x, .iface s y => Nat.beq t s && SV.eqb x y
  | .agg a, .agg b => SV.eqbL a b
  | _, _ => false
def SV.eqbL : List SV → List SV → Bool
  | [], [] => true
  | a :: l, b :: m => SV.eqb a b && SV.eqbL l m
  | _, _ => false
end

/-- A value of Go's as it stands (constants, zeros). -/
def ofVal1 : Value → Option SV
  | .bool b => some (.bool (.blit b))
  | .int k n => some (.int k (.lit n))
  | .string s => some (.str s.data.toList)
  | .pointer none => some .nilp
  | .slice none 0 0 => some .nilslice
  | .map none => some .nilmap
  | .nilFunc => some .nilFunc
  | .nilIface => some .nilIface
  | _ => none
def ofValL : List Value → Option (List SV)
  | [] => some []
  | x :: l => (ofVal1 x).bind fun a => (ofValL l).map (a :: ·)
def ofVal : Value → Option SV
  | .agg cs => (ofValL cs.toList).map .agg
  | .tuple cs => if cs.size = 0 then some (.tuple []) else none
  | x => ofVal1 x

/-! ### memory -/
inductive Blk where
  | row (cells : List SV) (ty : TypeId)
  | arr (b : Nat) (len : E) (k : IntKind) (ups : List (E × E)) (ty : TypeId)
  | ext
abbrev St := List Blk
structure Cx where
  P : Program
  gl : List Nat
  /-- Functions that are known by a contract: what they answer; they leave memory as it is. -/
  tab : FuncId → List SV → St → Option SV
/-- What one operation comes to. -/
inductive Rs where
  | val (x : SV) (s : St)
  | skip (s : St)
  | call (f : FuncId) (args : List SV)
  | pan (x : SV)
  | dfr (f : FuncId) (args : List SV)

def opd (c : Cx) (fr : List SV) : Operand → Option SV
  | .tmp t => (fr[t]?).bind fun x => match x with | .any => none | x => some x
  | .const x => ofVal x
  | .global g => (c.gl.idxOf? g).map fun i => .ptr i 0
  | .func f => some (.func (.func f) [] [])
def opdL (c : Cx) (fr : List SV) : List Operand → Option (List SV)
  | [] => some []
  | x :: l => (opd c fr x).bind fun a => (opdL c fr l).map (a :: ·)

def sizeB (P : Program) (t : TypeId) : Option Nat := (P.info? t).map (·.size)
def bad (n : Nat) : T Rs := .fail n
def okV (x : SV) (s : St) : T Rs := .leaf (.val x s)

/-- One of the expressions, by a number. -/
def runOfVars : Nat → List E → Bool
  | _, [] => true
  | b, .var i :: l => Nat.beq b i && runOfVars (b + 1) l
  | _, _ => false
def selNest (e : E) : Nat → List E → E
  | _, [] => .lit 0
  | _, [x] => x
  | j, x :: l => mkIteE (mkCmp0 .eql e (.lit j)) x (selNest e (j + 1) l)
def selNestB (e : E) : Nat → List E → E
  | _, [] => .blit false
  | _, [x] => x
  | j, x :: l => mkIteB (mkCmp0 .eql e (.lit j)) x (selNestB e (j + 1) l)
def selE (e : E) (l : List E) : E :=
  match l with
  | .var b :: r => bif runOfVars (b + 1) r then .vat b e else selNest e 0 l
  | l => selNest e 0 l
def intsOf (k : IntKind) : List SV → Option (List E)
  | [] => some []
  | .int l e :: r => bif kindEq k l then (intsOf k r).map (e :: ·) else none
  | _ => none
def boolsOf : List SV → Option (List E)
  | [] => some []
  | .bool e :: r => (boolsOf r).map (e :: ·)
  | _ => none
def selSV (e : E) : List SV → Option SV
  | [] => none
  | .int k a :: r => (intsOf k r).map fun l => .int k (selE e (a :: l))
  | .bool a :: r => (boolsOf r).map fun l => .bool (selNestB e 0 (a :: l))
  | x :: r => bif r.all (fun y => x.eqb y) then some x else none
/-- The cells o + j + st * i, i below cnt. -/
def strided (cs : List SV) (o st : Nat) : Nat → Option (List SV)
  | 0 => some []
  | n + 1 => (cs[o]?).bind fun x => (strided cs (o + st) st n).map (x :: ·)
def selCells (cs : List SV) (e : E) (st cnt : Nat) : Nat → Nat → Option (List SV)
  | _, 0 => some []
  | o, m + 1 => (strided cs o st cnt).bind fun l => (selSV e l).bind fun x => (selCells cs e st cnt (o + 1) m).map (x :: ·)

/-- What an array of letters holds at e, behind the writes ups (the last one first). -/
def rdE (b : Nat) (e : E) : List (E × E) → E
  | [] => .vat b e
  | (f, x) :: r => mkIteE (mkCmp0 .eql f e) x (rdE b e r)
def loadSV (c : Cx) (t : TypeId) (s : St) (p : Path) (a : SV) : T Rs :=
  match a with
  | .ptr n o =>
    match s[n]? with
    | some (.row cs _) =>
      match c.P.underlying t with
      | none => bad 1
      | some d =>
        if d.isRow then
          match sizeB c.P t with
          | some m => if o + m ≤ cs.length then okV (.agg ((cs.drop o).take m)) s else bad 2
          | none => bad 3
        else match cs[o]? with
          | some x => okV x s
          | none => bad 4
    | _ => bad 5
  | .ptrx n o st cnt e =>
    match s[n]?, decideP (mkInr e (.lit cnt)) p with
    | some (.row cs _), some true =>
      match c.P.underlying t with
      | none => bad 6
      | some d =>
        if d.isRow then
          match (sizeB c.P t).bind (selCells cs e st cnt o) with
          | some l => okV (.agg l) s
          | none => bad 7
        else match (selCells cs e st cnt o 1) with
          | some [x] => okV x s
          | _ => bad 8
    | _, _ => bad 9
  | .ptra n o e =>
    match s[n]? with
    | some (.arr b len k ups _) =>
      match c.P.underlying t with
      | some (.int k') => if k = k' ∧ o = 0 ∧ decideP (mkInr e len) p = some true then okV (.int k (rdE b e ups)) s else bad 113
      | _ => bad 114
    | _ => bad 115
  | _ => bad 10

def mergeSV (c : E) : SV → SV → Option SV
  | .int k a, .int l b => bif kindEq k l then some (.int k (mkIteE c a b)) else none
  | .bool a, .bool b => some (.bool (mkIteB c a b))
  | x, y => bif x.eqb y then some x else none
/-- The cells from o + st * i on, for the i that e is, are xs. -/
def writeAt {α : Type} (cs xs : List α) (o : Nat) : List α := cs.take o ++ xs ++ cs.drop (o + xs.length)
def mergeL (c : E) : List SV → List SV → Option (List SV)
  | [], [] => some []
  | a :: l, b :: m => (mergeSV c a b).bind fun x => (mergeL c l m).map (x :: ·)
  | _, _ => none
def writeX (e : E) (st : Nat) (xs : List SV) : Nat → Nat → Nat → List SV → Option (List SV)
  | _, _, 0, cs => some cs
  | o, j, n + 1, cs => (mergeL (mkCmp0 .eql e (.lit j)) (writeAt cs xs o) cs).bind fun cs' => writeX e st xs (o + st) (j + 1) n cs'

def storeSV (c : Cx) (t : TypeId) (s : St) (p : Path) (a x : SV) : T Rs :=
  let xs := x.cells
  bif xs.all SV.one then
    match sizeB c.P t with
    | some m =>
      if m = xs.length then
        match a with
        | .ptr n o =>
          match s[n]? with
          | some (.row cs ty) => if o + m ≤ cs.length then .leaf (.skip (s.set n (.row (writeAt cs xs o) ty))) else bad 11
          | _ => bad 12
        | .ptrx n o st cnt e =>
          match s[n]?, decideP (mkInr e (.lit cnt)) p with
          | some (.row cs ty), some true =>
            if 0 < m ∧ m ≤ st ∧ o + cnt * st ≤ cs.length + (st - m) then
              match writeX e st xs o 0 cnt cs with
              | some cs' => .leaf (.skip (s.set n (.row cs' ty)))
              | none => bad 13
            else bad 14
          | _, _ => bad 15
        | .ptra n o e =>
          match s[n]?, xs with
          | some (.arr b len k ups ty), [.int k' y] => if k = k' ∧ o = 0 ∧ m = 1 ∧ decideP (mkInr e len) p = some true then .leaf (.skip (s.set n (.arr b len k ((e, y) :: ups) ty))) else bad 116
          | _, _ => bad 117
        | _ => bad 16
      else bad 17
    | none => bad 18
  else bad 19

/-- 'Instr.fill' on our values. -/
def fillSV (place : Nat → Option (Nat × Nat)) (cells : List SV) : List (Nat × SV) → Option (List SV)
  | [] => some cells
  | (i, x) :: rest =>
    match place i with
    | none => none
    | some (off, size) => if x.cells.length = size ∧ off + x.cells.length ≤ cells.length then fillSV place (writeAt cells x.cells off) rest else none
def placesOf (P : Program) : List Field → Option (List (Nat × Nat))
  | [] => some []
  | f :: r => (sizeB P f.type).bind fun m => (placesOf P r).map ((f.offset, m) :: ·)
def zeroCells (P : Program) (t : TypeId) : Option (List SV) := ((P.info? t).bind (·.zero)).bind fun z => ofValL z.cells.toList
def opdParts (c : Cx) (fr : List SV) : List (Nat × Operand) → Option (List (Nat × SV))
  | [] => some []
  | (i, x) :: l => (opd c fr x).bind fun a => (opdParts c fr l).map ((i, a) :: ·)

def partSV (P : Program) (t : TypeId) (l : List SV) (off : Nat) : Option SV :=
  match P.underlying t with
  | none => none
  | some d => if d.isRow then (sizeB P t).bind fun m => if off + m ≤ l.length then some (.agg ((l.drop off).take m)) else none
    else l[off]?

def eqFs (P : Program) (rec : TypeId → SV → SV → Option E) (l m : List SV) : List Field → Option E
  | [] => some (.blit true)
  | f :: fs => if f.name = "_" then eqFs P rec l m fs else
    (partSV P f.type l f.offset).bind fun a => (partSV P f.type m f.offset).bind fun b => (rec f.type a b).bind fun e => (eqFs P rec l m fs).map (mkAnd e ·)
def eqAr (P : Program) (rec : SV → SV → Option E) (elem n : Nat) (l m : List SV) : Nat → Nat → Option E
  | _, 0 => some (.blit true)
  | i, k + 1 => (partSV P elem l (i * n)).bind fun a => (partSV P elem m (i * n)).bind fun b => (rec a b).bind fun e => (eqAr P rec elem n l m (i + 1) k).map (mkAnd e ·)
def eqSV (P : Program) : Nat → TypeId → SV → SV → Option E
  | 0, _, _, _ => none
  | d + 1, t, x, y =>
    match P.underlying t, x, y with
    | some .bool, .bool a, .bool b => some (mkBeq a b)
    | some (.int _), .int k a, .int l b => bif kindEq k l then some (mkCmp0 .eql a b) else none
    | some (.struct fs), .agg l, .agg m => bif P.stoodInHeld t then none else eqFs P (eqSV P d) l m fs.toList
    | some (.array n e), .agg l, .agg m => (sizeB P e).bind fun k => eqAr P (eqSV P d e) e k l m 0 n
    | _, _, _ => none
def binSV (c : Cx) (op : BinOp) (xt : TypeId) (p : Path) (s : St) (cst : Bool) (x y : SV) : T Rs :=
  match x, y with
  | .int k a, .int l b =>
    match op with
    | .shl | .shr => mkIf (mkCmp0 .lss b (.lit 0)) p (fun _ => bad 20) (fun _ => okV (.int k (mkBin op k a b)) s)
    | .quo | .rem => bif kindEq k l then mkIf (mkCmp0 .eql b (.lit 0)) p (fun _ => bad 21) (fun _ => okV (.int k (knownE p (mkBin op k a b))) s) else bad 22
    | .add | .sub | .mul | .and | .or | .xor | .andNot => bif kindEq k l then okV (.int k (mkBin op k a b)) s else bad 23
    | op => bif kindEq k l then okV (.bool (mkCmp op a b)) s else bad 24
  | .bool a, .bool b =>
    match op, c.P.underlying xt with
    | .eql, some .bool => okV (.bool (mkBeq a b)) s
    | .neq, some .bool => okV (.bool (mkNot (mkBeq a b))) s
    | _, _ => bad 25
  | .ptr _ _, .nilp | .nilp, .ptr _ _ | .ptra _ _ _, .nilp | .ptrx _ _ _ _ _, .nilp =>
    match op, c.P.underlying xt with
    | .eql, some (.pointer _) => okV (.bool (.blit false)) s
    | .neq, some (.pointer _) => okV (.bool (.blit true)) s
    | _, _ => bad 26
  | .agg l, .agg m =>
    bif c.P.eqGuardType c.P.depth xt then bad 131 else
      match op, eqSV c.P 20 xt (.agg l) (.agg m) with
      | .eql, some e => okV (.bool e) s
      | .neq, some e => okV (.bool (mkNot e)) s
      | _, _ => bad 132
  | .nilIface, .nilIface =>
    bif cst then
      match op, c.P.underlying xt with
      | .eql, some (.interface _) => okV (.bool (.blit true)) s
      | .neq, some (.interface _) => okV (.bool (.blit false)) s
      | _, _ => bad 123
    else bad 124
  | .iface _ _, .nilIface | .nilIface, .iface _ _ =>
    match op, c.P.underlying xt with
    | .eql, some (.interface _) => okV (.bool (.blit false)) s
    | .neq, some (.interface _) => okV (.bool (.blit true)) s
    | _, _ => bad 125
  | .func (.func _) _ _, .nilFunc | .nilFunc, .func (.func _) _ _ =>
    match op, c.P.underlying xt with
    | .eql, some (.func _ _ _) => okV (.bool (.blit false)) s
    | .neq, some (.func _ _ _) => okV (.bool (.blit true)) s
    | _, _ => bad 121
  | .nilFunc, .nilFunc =>
    match op, c.P.underlying xt with
    | .eql, some (.func _ _ _) => okV (.bool (.blit true)) s
    | .neq, some (.func _ _ _) => okV (.bool (.blit false)) s
    | _, _ => bad 122
  | .nilp, .nilp =>
    match op, c.P.underlying xt with
    | .eql, some (.pointer _) => okV (.bool (.blit true)) s
    | .neq, some (.pointer _) => okV (.bool (.blit false)) s
    | _, _ => bad 27
  | _, _ => bad 28

def offBy (a : SV) (n : Nat) : Option SV :=
  match a with
  | .ptr b o => some (.ptr b (o + n))
  | .ptrx b o st cnt e => some (.ptrx b (o + n) st cnt e)
  | _ => none

def indexAddrSV (c : Cx) (t : TypeId) (p : Path) (s : St) (x ix : SV) : T Rs :=
  match ix with
  | .int _ e =>
    match c.P.underlying t with
    | some (.array len elem) =>
      match sizeB c.P elem, x with
      | some m, .ptr n o =>
        match e with
        | .lit i => if 0 ≤ i ∧ i < len then okV (.ptr n (o + i.toNat * m)) s else bad 30
        | e => mkIf (mkInr e (.lit len)) p (fun _ => okV (.ptrx n o m len e) s) (fun _ => bad 31)
      | some m, .ptrx n o st cnt f =>
        match e with
        | .lit i => if 0 ≤ i ∧ i < len then okV (.ptrx n (o + i.toNat * m) st cnt f) s else bad 32
        | _ => bad 33
      | _, _ => bad 34
    | some (.slice elem) =>
      match sizeB c.P elem, x with
      | some m, .slice n o len _ =>
        match e with
        | .lit i => if 0 ≤ i ∧ i < len then okV (.ptr n (o + i.toNat * m)) s else bad 35
        | e => mkIf (mkInr e (.lit len)) p (fun _ => okV (.ptrx n o m len e) s) (fun _ => bad 36)
      | some m, .slicec n o (.lit len) =>
        match e with
        | .lit i => if 0 ≤ i ∧ i < len then okV (.ptr n (o + i.toNat * m)) s else bad 126
        | e => mkIf (mkInr e (.lit len)) p (fun _ => okV (.ptrx n o m len.toNat e) s) (fun _ => bad 127)
      | some 1, .slicec n o len => if decideP (mkCmp0 .lss len (.lit 0)) p = some false then mkIf (mkInr e len) p (fun _ => okV (.ptra n o e) s) (fun _ => bad 128) else bad 129
      | some 1, .slicex n o len _ => if decideP (mkCmp0 .lss len (.lit 0)) p = some false then mkIf (mkInr e len) p (fun _ => okV (.ptra n o e) s) (fun _ => bad 118) else bad 119
      | _, _ => bad 37
    | _ => bad 38
  | _ => bad 39

def indexSV (c : Cx) (t : TypeId) (p : Path) (s : St) (x ix : SV) : T Rs :=
  match ix, x with
  | .int _ e, .agg l =>
    match c.P.underlying t with
    | some (.array len elem) =>
      match sizeB c.P elem with
      | some m =>
        match e with
        | .lit i => if 0 ≤ i ∧ i < len then (match partSV c.P elem l (i.toNat * m) with | some x => okV x s | none => bad 40) else bad 41
        | e => mkIf (mkInr e (.lit len)) p (fun _ =>
            match c.P.underlying elem with
            | none => bad 42
            | some d => if d.isRow then bad 43 else if m = 1 ∧ l.length = len then
                (match selSV e l with | some x => okV x s | none => bad 44) else bad 45) (fun _ => bad 46)
      | none => bad 47
    | _ => bad 48
  | .int _ (.lit i), .str b =>
    match c.P.underlying t with
    | some .string => if 0 ≤ i then (match b[i.toNat]? with | some x => okV (.int .u8 (.lit x.toNat)) s | none => bad 49) else bad 50
    | _ => bad 51
  | _, _ => bad 52

def unSV (op : UnOp) (s : St) (x : SV) : T Rs :=
  match op, x with
  | .neg, .int k e => okV (.int k (mkBin .sub k (.lit 0) e)) s
  | .xor, .int k e => okV (.int k (mkBin .xor k (.lit (if k.signed then -1 else k.max)) e)) s
  | .not, .bool e => okV (.bool (mkNot e)) s
  | _, _ => bad 53

/-- A number that an expression surely does not pass, by what is known. -/
def upperP (e : E) : Path → Option Int
  | [] => none
  | (.cmp .lss (.lit k) f, false) :: p => bif E.eqb f e then some k else upperP e p
  | _ :: p => upperP e p
/-- The cells of a slice of known length. -/
def sliceCells (s : St) (m : Nat) : SV → Option (Nat × List SV)
  | .nilslice => some (0, [])
  | .slice n o l _ => match s[n]? with
    | some (.row cs _) => if o + l * m ≤ cs.length then some (l, (cs.drop o).take (l * m)) else none
    | _ => none
  | .slicec n o (.lit l) => match s[n]? with
    | some (.row cs _) => if 0 ≤ l ∧ o + l.toNat * m ≤ cs.length then some (l.toNat, (cs.drop o).take (l.toNat * m)) else none
    | _ => none
  | _ => none
def appendSV (c : Cx) (s : St) (p : Path) (t : TypeId) (x y : SV) : T Rs :=
  match c.P.underlying t with
  | some (.slice e) =>
    match c.P.info? e with
    | some i =>
      match i.zero with
      | some _ =>
        match x with
        | .nilslice =>
          match y with
          | .slicex n 0 len _ | .slicec n 0 len =>
            match s[n]? with
            | some (.arr b len' k ups _) =>
              match upperP len p with
              | some K => bif E.eqb len len' && decide (K ≤ 1000000) && decide (i.size = 1) && decide (i.bytes ≤ 8) && (decideP (mkCmp0 .lss len (.lit 0)) p == some false) then
                  mkIf (mkCmp0 .eql len (.lit 0)) p (fun _ => okV .nilslice s) (fun _ => okV (.slicec s.length 0 len) (s ++ [.arr b len k ups e])) else bad 133
              | none => bad 134
            | _ => match sliceCells s i.size y with
              | some (n, l) => if 0 < n ∧ n * i.bytes ≤ 1000000 ∧ n ≤ 1000000 then okV (.slicec s.length 0 (.lit n)) (s ++ [.row l e]) else if n = 0 then okV .nilslice s else bad 135
              | none => bad 136
          | y => match sliceCells s i.size y with
            | some (n, l) => if 0 < n ∧ n * i.bytes ≤ 1000000 ∧ n ≤ 1000000 then okV (.slicec s.length 0 (.lit n)) (s ++ [.row l e]) else if n = 0 then okV .nilslice s else bad 137
            | none => bad 138
        | .slice _ _ l cap =>
          match sliceCells s i.size x, sliceCells s i.size y with
          | some (_, l1), some (n2, l2) => if cap < l + n2 ∧ (l + n2) * i.bytes ≤ 1000000 ∧ l + n2 ≤ 1000000 ∧ 0 < n2 then okV (.slicec s.length 0 (.lit (l + n2 : Nat))) (s ++ [.row (l1 ++ l2) e]) else bad 139
          | _, _ => bad 140
        | _ => bad 141
      | none => bad 142
    | none => bad 143
  | _ => bad 144
def repL {α : Type} : Nat → List α → List α
  | 0, _ => []
  | n + 1, l => l ++ repL n l
def makeSliceSV (c : Cx) (s : St) (t : TypeId) (l k : SV) : T Rs :=
  match c.P.underlying t, l, k with
  | some (.slice e), .int _ (.lit l), .int _ (.lit k) =>
    match c.P.info? e with
    | some i => match i.zero with
      | some z => match ofValL z.cells.toList with
        | some zs => if 0 ≤ l ∧ l ≤ k ∧ k ≤ 100000 ∧ i.bytes ≤ 10000 ∧ zs.length = i.size ∧ 0 < i.size then okV (.slice s.length 0 l.toNat k.toNat) (s ++ [.row (repL k.toNat zs) e]) else bad 145
        | none => bad 146
      | none => bad 147
    | none => bad 148
  | _, _, _ => bad 149
def buildSliceSV (c : Cx) (s : St) (t : TypeId) (len : Nat) (ps : List (Nat × SV)) : T Rs :=
  match c.P.underlying t with
  | some (.slice e) =>
    match c.P.info? e with
    | some i => match i.zero with
      | some z => match ofValL z.cells.toList with
        | some zs => if 0 < i.size ∧ 0 < len ∧ len * i.size ≤ 100000 ∧ zs.length = i.size then
            (match fillSV (fun j => some (j * i.size, i.size)) (repL len zs) ps with | some l => okV (.slice s.length 0 len len) (s ++ [.row l e]) | none => bad 150) else bad 151
        | none => bad 152
      | none => bad 153
    | none => bad 154
  | _ => bad 155
def callSV (c : Cx) (fr : List SV) (s : St) (p : Path) (k : Call) : T Rs :=
  match k.callee with
  | .value f =>
    match opd c fr f, opdL c fr k.args.toList with
    | some (.func (.func g) a b), some args => if ((c.P.funcs[g]?).map (·.body.isSome)).getD false then .leaf (.call g (a ++ args ++ b)) else bad 60
    | _, _ => bad 61
  | .builtin .len =>
    match k.argTypes[0]?, opdL c fr k.args.toList with
    | some t, some [x] =>
      match c.P.underlying t, x with
      | some (.slice _), .slice _ _ l _ => okV (.int .i64 (.lit l)) s
      | some (.slice _), .slicec _ _ l => if decideP (mkCmp0 .lss l (.lit 0)) p = some false then okV (.int .i64 l) s else bad 130
      | some (.slice _), .slicex _ _ l _ => if decideP (mkCmp0 .lss l (.lit 0)) p = some false then okV (.int .i64 l) s else bad 120
      | some (.slice _), .nilslice => okV (.int .i64 (.lit 0)) s
      | some .string, .str b => okV (.int .i64 (.lit b.length)) s
      | some (.array n _), _ => okV (.int .i64 (.lit n)) s
      | _, _ => bad 62
    | _, _ => bad 63
  | .builtin .append =>
    match k.argTypes.toList, opdL c fr k.args.toList with
    | [t, t'], some [x, y] => if t = t' then appendSV c s p t x y else bad 156
    | _, _ => bad 157
  | .builtin .min =>
    match opdL c fr k.args.toList with
    | some [.int k a, .int l b] => bif kindEq k l then okV (.int k (mkIteE (mkCmp0 .lss b a) b a)) s else bad 64
    | _ => bad 65
  | .builtin .max =>
    match opdL c fr k.args.toList with
    | some [.int k a, .int l b] => bif kindEq k l then okV (.int k (mkIteE (mkCmp0 .lss a b) b a)) s else bad 66
    | _ => bad 67
  | _ => bad 68

def assertSV (c : Cx) (s : St) (x : SV) (a : TypeId) (ok : Bool) : T Rs :=
  match c.P.underlying a with
  | none => bad 70
  | some (.interface _) => bad 71
  | some _ =>
    match x with
    | .iface t y => if t = a then okV (if ok then .tuple [y, .bool (.blit true)] else y) s
      else if ok then (match (c.P.info? a).bind (·.zero) with
        | some z => (match ofVal z with | some z => okV (.tuple [z, .bool (.blit false)]) s | none => bad 72)
        | none => bad 73) else bad 74
    | .nilIface => if ok then (match (c.P.info? a).bind (·.zero) with
        | some z => (match ofVal z with | some z => okV (.tuple [z, .bool (.blit false)]) s | none => bad 75)
        | none => bad 76) else bad 77
    | _ => bad 78

def isCst : Operand → Bool
  | .const _ => true
  | _ => false
def opEv (c : Cx) (fr : List SV) (s : St) (p : Path) (op : Op) : T Rs :=
  match op with
  | .move x | .assign x => match opd c fr x with | some v => okV v s | none => bad 80
  | .pick k a b =>
    match opd c fr k, opd c fr a, opd c fr b with
    | some (.bool e), some x, some y => mkIf e p (fun _ => okV x s) (fun _ => okV y s)
    | _, _, _ => bad 81
  | .alloc t => match zeroCells c.P t with | some z => okV (.ptr s.length 0) (s ++ [.row z t]) | none => bad 82
  | .box t x => match opd c fr x with | some v => okV (.ptr s.length 0) (s ++ [.row v.cells t]) | none => bad 83
  | .build t parts =>
    match zeroCells c.P t, opdParts c fr parts.toList, c.P.underlying t with
    | some z, some ps, some (.struct fs) =>
      match placesOf c.P fs.toList with
      | some pl => (match fillSV (fun i => pl[i]?) z ps with | some l => okV (.agg l) s | none => bad 84)
      | none => bad 85
    | some z, some ps, some (.array _ elem) =>
      match sizeB c.P elem with
      | some m => (match fillSV (fun i => some (i * m, m)) z ps with | some l => okV (.agg l) s | none => bad 86)
      | none => bad 87
    | _, _, _ => bad 88
  | .buildSlice t len parts => match opdParts c fr parts.toList with | some ps => buildSliceSV c s t len ps | none => bad 158
  | .makeSlice t l k => match opd c fr l, opd c fr k with | some l, some k => makeSliceSV c s t l k | _, _ => bad 159
  | .defer k => match k.callee with
    | .value f =>
      match opd c fr f, opdL c fr k.args.toList with
      | some (.func (.func g) a b), some args => if ((c.P.funcs[g]?).map (·.body.isSome)).getD false then .leaf (.dfr g (a ++ args ++ b)) else bad 160
      | _, _ => bad 161
    | _ => bad 162
  | .load t a => match opd c fr a with | some x => loadSV c t s p x | none => bad 89
  | .store t a x => match opd c fr a, opd c fr x with | some a, some x => storeSV c t s p a x | _, _ => bad 90
  | .nilCheck x =>
    match opd c fr x with
    | some (.ptr n o) => okV (.ptr n o) s
    | some (.ptrx n o st cnt e) => okV (.ptrx n o st cnt e) s
    | some (.ptra n o e) => okV (.ptra n o e) s
    | some (.func (.func f) a b) => okV (.func (.func f) a b) s
    | some (.iface t y) => okV (.iface t y) s
    | _ => bad 91
  | .binOp op xt x y _ => match opd c fr x, opd c fr y with | some x', some y' => binSV c op xt p s (isCst x || isCst y) x' y' | _, _ => bad 92
  | .unOp op _ x => match opd c fr x with | some x => unSV op s x | none => bad 93
  | .convert src dst x =>
    match c.P.underlying src, c.P.underlying dst, opd c fr x with
    | some _, some (.int k), some (.int _ e) => okV (.int k (mkCv k e)) s
    | _, _, _ => bad 94
  | .makeInterface t x =>
    match c.P.underlying t, opd c fr x with
    | some (.interface _), _ => bad 95
    | some _, some x => okV (.iface t x) s
    | _, _ => bad 96
  | .makeFunc fn a b => match opdL c fr a.toList, opdL c fr b.toList with | some a, some b => okV (.func fn a b) s | _, _ => bad 97
  | .fieldAddr t x f =>
    match c.P.underlying t, opd c fr x with
    | some (.struct fs), some a =>
      match fs[f]? with
      | some f => (match sizeB c.P f.type with
        | some m => if m = 0 then bad 98 else (match offBy a f.offset with | some r => okV r s | none => bad 99)
        | none => bad 100)
      | none => bad 101
    | _, _ => bad 102
  | .field t x f =>
    match c.P.underlying t, opd c fr x with
    | some (.struct fs), some (.agg l) =>
      match fs[f]? with
      | some f => (match partSV c.P f.type l f.offset with | some r => okV r s | none => bad 103)
      | none => bad 104
    | _, _ => bad 105
  | .indexAddr t x ix => match opd c fr x, opd c fr ix with | some x, some ix => indexAddrSV c t p s x ix | _, _ => bad 106
  | .index t x ix => match opd c fr x, opd c fr ix with | some x, some ix => indexSV c t p s x ix | _, _ => bad 107
  | .extract x i => match opd c fr x with | some (.tuple l) => (match l[i]? with | some r => okV r s | none => bad 108) | _ => bad 109
  | .call k => callSV c fr s p k
  | .typeAssert x _ a ok => match opd c fr x with | some x => assertSV c s x a ok | none => bad 110
  | .panic x => match opd c fr x with | some (.iface t y) => .leaf (.pan (.iface t y)) | _ => bad 111
  | _ => bad 112

/-! ### statements -/
inductive X where
  | normal
  | exit (id : Nat)
  | ret
  | pan (x : SV)
/-- Calls that are put off. -/
abbrev Df := List (FuncId × List SV)
structure CL where
  x : X
  fr : List SV
  s : St
  df : Df
inductive FE where
  | ret (x : SV)
  | pan (x : SV)
structure FL where
  e : FE
  s : St
def putF (fr : List SV) (dst : Option Tmp) (x : SV) : List SV :=
  match dst with
  | some d => fr.set d x
  | none => fr
/-- What the guard says: some (some e): a truth value; some none: nothing. -/
def guardE (all : Array Oper) (fr : List SV) (j : Nat) : Option (Option E) :=
  match (all[j]?).bind (·.dst) with
  | none => some none
  | some d => match fr[d]? with
    | none => some none
    | some (.bool e) => some (some e)
    | some (.tuple _) => some none
    | some (.int _ _) => some none
    | some _ => none
def resOne (c : Cx) (fr : List SV) (s : St) (p : Path) : ResultVar → Option SV
  | .tmp t => (fr[t]?).bind fun x => match x with | .any => none | x => some x
  | .cell a t => match fr[a]? with
    | some (.ptr n o) => (match loadSV c t s p (.ptr n o) with | .leaf (.val x _) => some x | _ => none)
    | _ => none
def resL (c : Cx) (fr : List SV) (s : St) (p : Path) : List ResultVar → Option (List SV)
  | [] => some []
  | r :: l => (resOne c fr s p r).bind fun x => (resL c fr s p l).map (x :: ·)
def resAll (c : Cx) (fr : List SV) (s : St) (p : Path) (l : List ResultVar) : Option SV :=
  match resL c fr s p l with
  | some [x] => some x
  | some l => some (.tuple l)
  | none => none

mutual
/-- Does it name blocks below n alone? -/
def SV.sc (n : Nat) : SV → Bool
  | .ptr b _ | .ptrx b _ _ _ _ | .ptra b _ _ | .slice b _ _ _ | .slicex b _ _ _ | .slicec b _ _ => Nat.blt b n
  | .agg l | .tuple l => SV.scL n l
  | .func _ a b => SV.scL n a && SV.scL n b
  | .iface _ x => SV.sc n x
  | _ => true
def SV.scL (n : Nat) : List SV → Bool
  | [] => true
  | x :: l => SV.sc n x && SV.scL n l
end
def Blk.sc (n : Nat) : Blk → Bool
  | .row cs _ => SV.scL n cs
  | _ => true
def FE.sc (n : Nat) : FE → Bool
  | .ret x | .pan x => x.sc n
/-- What was made on the way, and is not needed, is forgotten. -/
def forget (n : Nat) (l : FL) : FL :=
  bif l.e.sc n && (l.s.take n).all (Blk.sc n) then ⟨l.e, l.s.take n⟩ else l
def upsEqb : List (E × E) → List (E × E) → Bool
  | [], [] => true
  | (a, b) :: l, (c, d) :: m => E.eqb a c && E.eqb b d && upsEqb l m
  | _, _ => false
def Blk.eqb : Blk → Blk → Bool
  | .row cs t, .row ds u => Nat.beq t u && SV.eqbL cs ds
  | .arr b l k ups t, .arr c m j vps u => Nat.beq b c && E.eqb l m && kindEq k j && upsEqb ups vps && Nat.beq t u
  | .ext, .ext => true
  | _, _ => false
def stEqb : St → St → Bool
  | [], [] => true
  | a :: l, b :: m => Blk.eqb a b && stEqb l m
  | _, _ => false
/-- Two ends that leave memory as it was, of one kind, become one. -/
def mergeT (s0 : St) : T FL → T FL
  | .ite c t e =>
    match mergeT s0 t, mergeT s0 e with
    | .leaf ⟨.ret x, s⟩, .leaf ⟨.ret y, s'⟩ =>
      bif stEqb s s0 && stEqb s' s0 then (match mergeSV c x y with | some z => .leaf ⟨.ret z, s0⟩ | none => .ite c (.leaf ⟨.ret x, s⟩) (.leaf ⟨.ret y, s'⟩))
      else .ite c (.leaf ⟨.ret x, s⟩) (.leaf ⟨.ret y, s'⟩)
    | a, b => .ite c a b
  | t => t
/-- All that number j waits for, itself or by others. -/
def reachB (ops : Array Oper) : Nat → Nat → Nat → Bool
  | 0, _, _ => false
  | f + 1, j, i =>
    match ops[j]? with
    | none => false
    | some o => o.after.any fun e => Region.binds .any e && (Nat.beq e.on i || reachB ops f e.on i)
def headB (ops : Array Oper) (F : List Nat) (n : Nat) : Bool :=
  Region.noSelect ops && decide (n ≤ ops.size) &&
  (List.range ops.size).all (fun j => match ops[j]? with
    | none => true
    | some o => o.after.all fun e => !Region.binds .any e || Nat.blt e.on j) &&
  (List.range n).all (fun j => match ops[j]? with
    | none => true
    | some oj => (List.range n).all fun i => match (ops[i]?).bind (·.dst) with
      | none => true
      | some d => Nat.beq i j || ((!(oj.looksAt ops).contains d || (Nat.blt i j && reachB ops ops.size j i) || (Nat.blt j i && reachB ops ops.size i j)) && !(match oj.dst with | some d' => Nat.beq d d' | none => false))) &&
  (List.range (ops.size - n)).all (fun t => (List.range (n + t)).all fun i => F.contains i || reachB ops ops.size (n + t) i) &&
  F.all fun i => Nat.blt i n
/-- Arithmetic that can't fail. -/
def arithB : BinOp → Bool
  | .add | .sub | .mul | .and | .or | .xor | .andNot => true
  | _ => false
/-- Operations on numbers and moves, of what nothing from here on writes, and that nobody looks at who does not wait for them: they may be done as soon as they can be. -/
def floatB (ops : Array Oper) (i : Nat) : Bool :=
  match ops[i]? with
  | some ⟨some _, op, _, _, _, none⟩ => (match op with | .move _ => true | .binOp o _ _ _ _ => arithB o | _ => false) &&
    op.operands.toList.all (fun x => match x with | .tmp t => (List.range (ops.size - i)).all (fun j => match (ops[i + j]?).bind (·.dst) with | some d => !Nat.beq d t | none => true) | _ => true) &&
    Region.free .any ops ((List.range ops.size).map fun j => Nat.blt j i).toArray i
  | _ => false
def floatsOf (ops : Array Oper) : List Nat := (List.range ops.size).filter fun i => (ops.any fun o => o.after.any fun e => Nat.beq e.on i && !Region.binds .any e) && floatB ops i
/-- The same, seen in a frame. -/
def fltOk (c : Cx) (fr : List SV) (ops : Array Oper) (i : Nat) : Bool :=
  match ops[i]? with
  | some o => (match o.op with
    | .move _ => true
    | .binOp _ _ x y _ => (match opd c fr x, opd c fr y with | some (.int k _), some (.int l _) => kindEq k l | _, _ => false)
    | _ => false)
  | none => false
/-- Where a region that draws its order may be parted: the least number of operations at its head. -/
def headDown (ops : Array Oper) (F : List Nat) : Nat → Nat
  | 0 => 0
  | k + 1 => bif headB ops F k then headDown ops F k else k + 1
def headOf (ops : Array Oper) : Option (List Nat × Nat) :=
  bif headB ops [] ops.size then some ([], headDown ops [] ops.size)
  else bif headB ops [] (ops.size - 1) then some ([], headDown ops [] (ops.size - 1))
  else none
/-- The same, with moves that may be done first. -/
def headOfF (ops : Array Oper) : Option (List Nat × Nat) :=
  match floatsOf ops with
  | [] => headOf ops
  | F => bif headB ops F ops.size then some (F, headDown ops F ops.size) else headOf ops
/-- A body that begins with recover: where that goes, and what follows. -/
def recBody : Code → Option (Option Tmp × Code)
  | .seq (.region _ ⟨[⟨dst, .call ⟨.builtin .recover, ⟨[]⟩, _⟩, _, _, _, none⟩]⟩ false) rest => some (dst, rest)
  | _ => none
mutual
def evC (c : Cx) : Nat → Code → List SV → St → Path → Df → T CL
  | 0, _, _, _, _, _ => .fail 200
  | n + 1, code, fr, s, p, df =>
    match code with
    | .skip => .leaf ⟨.normal, fr, s, df⟩
    | .label _ => .leaf ⟨.normal, fr, s, df⟩
    | .ret => .leaf ⟨.ret, fr, s, df⟩
    | .exit id => .leaf ⟨.exit id, fr, s, df⟩
    | .seq a b => (evC c n a fr s p df).bnd p fun l p =>
      match l.x with
      | .normal => evC c n b l.fr l.s p l.df
      | _ => .leaf l
    | .cond o a b =>
      match opd c fr o with
      | some (.bool e) => mkIf e p (fun p => evC c n a fr s p df) (fun p => evC c n b fr s p df)
      | _ => .fail 201
    | .block id b => (evC c n b fr s p df).bnd p fun l _ =>
      match l.x with
      | .exit j => if j = id then .leaf ⟨.normal, l.fr, l.s, l.df⟩ else .leaf l
      | _ => .leaf l
    | .scope b => evC c n b fr s p df
    | .loop b => (evC c n b fr s p df).bnd p fun l p =>
      match l.x with
      | .normal => evC c n (.loop b) l.fr l.s p l.df
      | _ => .leaf l
    | .region _ ops draw =>
      bif draw then
        (match headOfF ops with
        | some (F, k) => (evHead c n ops (ops.toList.take k) fr s p).bnd p fun fr p => bif F.all (fltOk c fr ops) then (evOps c n ops (ops.toList.drop k) fr s p df).bnd p fun l _ =>
          match F, l.x with
          | _ :: _, .pan _ => .fail 224
          | _, _ => .leaf l
          else .fail 225
        | none => .fail 204)
      else evOps c n ops ops.toList fr s p df
    | _ => .fail 205
def evOps (c : Cx) : Nat → Array Oper → List Oper → List SV → St → Path → Df → T CL
  | 0, _, _, _, _, _, _ => .fail 206
  | _ + 1, _, [], fr, s, _, df => .leaf ⟨.normal, fr, s, df⟩
  | n + 1, all, o :: rest, fr, s, p, df =>
    let run (p : Path) : T CL := (opEv c fr s p o.op).bnd p fun r p =>
      match r with
      | .val x s => evOps c n all rest (putF fr o.dst x) s p df
      | .skip s => evOps c n all rest (putF fr o.dst .undef) s p df
      | .call f args => (evF c n f args s p).bnd p fun l p =>
        match l.e with
        | .ret x => evOps c n all rest (putF fr o.dst x) l.s p df
        | .pan x => .leaf ⟨.pan x, fr, l.s, df⟩
      | .pan x => .leaf ⟨.pan x, fr, s, df⟩
      | .dfr f args => evOps c n all rest (putF fr o.dst .undef) s p ((f, args) :: df)
    match o.guard with
    | none => run p
    | some (j, want) =>
      match guardE all fr j with
      | some (some e) => mkIf (bif want then e else mkNot e) p run (fun p => evOps c n all rest (putF fr o.dst .undef) s p df)
      | some none => evOps c n all rest (putF fr o.dst .undef) s p df
      | none => .fail 207
def evHead (c : Cx) : Nat → Array Oper → List Oper → List SV → St → Path → T (List SV)
  | 0, _, _, _, _, _ => .fail 213
  | _ + 1, _, [], fr, _, _ => .leaf fr
  | n + 1, all, o :: rest, fr, s, p =>
    let run (p : Path) : T (List SV) := (opEv c fr s p o.op).bnd p fun r p =>
      match r with
      | .val x s' => bif stEqb s' s && x.sc s.length then evHead c n all rest (putF fr o.dst x) s p else .fail 214
      | .call f args => (evF c n f args s p).bnd p fun l p =>
        match l.e with
        | .ret x => bif stEqb l.s s && x.sc s.length then evHead c n all rest (putF fr o.dst x) s p else .fail 215
        | .pan _ => .fail 216
      | _ => .fail 217
    match o.guard with
    | none => run p
    | some (j, want) =>
      match guardE all fr j with
      | some (some e) => mkIf (bif want then e else mkNot e) p run (fun p => evHead c n all rest (putF fr o.dst .undef) s p)
      | some none => evHead c n all rest (putF fr o.dst .undef) s p
      | none => .fail 218
def evF (c : Cx) : Nat → FuncId → List SV → St → Path → T FL
  | 0, _, _, _, _ => .fail 208
  | n + 1, f, args, s, p =>
    match c.tab f args s with
    | some x => .leaf ⟨.ret x, s⟩
    | none =>
      match c.P.funcs[f]? with
      | none => .fail 209
      | some fn =>
        match fn.body with
        | none => .fail 210
        | some code => mergeT s ((evC c n code (args ++ List.replicate (fn.ntmps - args.length) .undef) s p []).bnd p fun l p =>
          match l.x with
          | .normal | .ret => (evLv c n fn.results.toList l.fr l.s p l.df none).bnd p fun l _ => .leaf (forget s.length l)
          | .pan x => (evLv c n fn.results.toList l.fr l.s p l.df (some x)).bnd p fun l _ => .leaf (forget s.length l)
          | .exit _ => .fail 212)
/-- What was put off is done; then the call ends. -/
def evLv (c : Cx) : Nat → List ResultVar → List SV → St → Path → Df → Option SV → T FL
  | 0, _, _, _, _, _, _ => .fail 219
  | _ + 1, res, fr, s, p, [], none => match resAll c fr s p res with | some x => .leaf ⟨.ret x, s⟩ | none => .fail 211
  | _ + 1, _, _, s, _, [], some x => .leaf ⟨.pan x, s⟩
  | n + 1, res, fr, s, p, (g, args) :: df, m =>
    match c.P.funcs[g]? with
    | none => .fail 220
    | some fn =>
      match fn.body, fn.results.toList with
      | some code, [] =>
        match recBody code with
        | some (dst, rest) => (evC c n rest (putF (args ++ List.replicate (fn.ntmps - args.length) .undef) dst (match m with | some x => x | none => .nilIface)) s p []).bnd p fun l p =>
          match l.x, l.df with
          | .normal, [] | .ret, [] => evLv c n res fr l.s p df none
          | _, _ => .fail 221
        | none => (evC c n code (args ++ List.replicate (fn.ntmps - args.length) .undef) s p []).bnd p fun l p =>
          match l.x, l.df with
          | .normal, [] | .ret, [] => evLv c n res fr l.s p df m
          | _, _ => .fail 222
      | _, _ => .fail 223
end
end Go.Proofs.YtancmkdmlghlpaaGreatDoor.Ev
