/- dioptralaw19.HartCalls is true for every input, and leaves its input as it was. -/
import Derived.Test.YtancmkdmlghlpaaGreatDoorEv1
import Derived.Test.YtancmkdmlghlpaaGreatDoorKcalls0
import Derived.Test.YtancmkdmlghlpaaGreatDoorKcalls1
import Derived.Test.YtancmkdmlghlpaaGreatDoorKcalls2
import Derived.Test.YtancmkdmlghlpaaGreatDoorKcalls3
import Derived.Test.YtancmkdmlghlpaaGreatDoorKcalls4
import Derived.Test.YtancmkdmlghlpaaGreatDoorKcalls5
import Derived.Test.YtancmkdmlghlpaaGreatDoorKcalls6
import Derived.Test.YtancmkdmlghlpaaGreatDoorKcalls7
namespace Go.Proofs.YtancmkdmlghlpaaGreatDoor
open Go Go.RowKit Ev Go.ChangeShapes Go.WideShapes Go.ChangeAt
def envC (p d : Bool) (n : Int) : Env := ⟨fun _ => n, fun i => match i with | 0 => p | _ => d, fun _ => .nilFunc, fun _ _ _ _ => 0, fun _ _ _ _ => false⟩
theorem rem_of {p d : Bool} {n k : Int} (hn : 0 ≤ n ∧ n ≤ 255) (hk : n % 8 = k) : PathOk (envC p d n) [(.cmp .eql (.bin .rem .u32 (.cv .u32 (.var 0)) (.lit 8)) (.lit k), true)] := by
  intro x hx
  simp only [List.mem_cons, List.not_mem_nil, or_false] at hx
  subst hx
  have e1 : IntKind.wrap .u32 n = n := by
    simp only [IntKind.wrap, IntKind.signed, IntKind.bits, Bool.false_and, Bool.false_eq_true, if_false]
    omega
  show ((IntKind.wrap .u32 n).tmod 8 == k) = true
  rw [e1, Int.tmod_eq_emod_of_nonneg hn.1, hk]
  exact beq_self_eq_true k
theorem hartCalls_run (p d : Bool) (n : Int) (hn : 0 ≤ n ∧ n ≤ 255) (W : World) (h : Gl W) : Calls Tryz.prog 9 #[.bool p, .bool d, .int .u8 n] W fun e W' => e = .returned (.bool true) ∧ Below W.heap.size W W' := by
  have hk : n % 8 = 0 ∨ n % 8 = 1 ∨ n % 8 = 2 ∨ n % 8 = 3 ∨ n % 8 = 4 ∨ n % 8 = 5 ∨ n % 8 = 6 ∨ n % 8 = 7 := by omega
  rcases hk with hk | hk | hk | hk | hk | hk | hk | hk
  · cases p <;> cases d
    · exact law_true (tabOk _) (v := envC false false n) (args := [.bool (.blit false), .bool (.blit false), .int .u8 (.var 0)]) (L := [.bool false, .bool false, .int .u8 n]) (e := .blit true) h rfl (rem_of hn hk) (congrArg (T.pick (envC false false n)) hartCalls_ev0_false_false) rfl
    · exact law_true (tabOk _) (v := envC false true n) (args := [.bool (.blit false), .bool (.blit true), .int .u8 (.var 0)]) (L := [.bool false, .bool true, .int .u8 n]) (e := .blit true) h rfl (rem_of hn hk) (congrArg (T.pick (envC false true n)) hartCalls_ev0_false_true) rfl
    · exact law_true (tabOk _) (v := envC true false n) (args := [.bool (.blit true), .bool (.blit false), .int .u8 (.var 0)]) (L := [.bool true, .bool false, .int .u8 n]) (e := .blit true) h rfl (rem_of hn hk) (congrArg (T.pick (envC true false n)) hartCalls_ev0_true_false) rfl
    · exact law_true (tabOk _) (v := envC true true n) (args := [.bool (.blit true), .bool (.blit true), .int .u8 (.var 0)]) (L := [.bool true, .bool true, .int .u8 n]) (e := .blit true) h rfl (rem_of hn hk) (congrArg (T.pick (envC true true n)) hartCalls_ev0_true_true) rfl
  · cases p <;> cases d
    · exact law_true (tabOk _) (v := envC false false n) (args := [.bool (.blit false), .bool (.blit false), .int .u8 (.var 0)]) (L := [.bool false, .bool false, .int .u8 n]) (e := .blit true) h rfl (rem_of hn hk) (congrArg (T.pick (envC false false n)) hartCalls_ev1_false_false) rfl
    · exact law_true (tabOk _) (v := envC false true n) (args := [.bool (.blit false), .bool (.blit true), .int .u8 (.var 0)]) (L := [.bool false, .bool true, .int .u8 n]) (e := .blit true) h rfl (rem_of hn hk) (congrArg (T.pick (envC false true n)) hartCalls_ev1_false_true) rfl
    · exact law_true (tabOk _) (v := envC true false n) (args := [.bool (.blit true), .bool (.blit false), .int .u8 (.var 0)]) (L := [.bool true, .bool false, .int .u8 n]) (e := .blit true) h rfl (rem_of hn hk) (congrArg (T.pick (envC true false n)) hartCalls_ev1_true_false) rfl
    · exact law_true (tabOk _) (v := envC true true n) (args := [.bool (.blit true), .bool (.blit true), .int .u8 (.var 0)]) (L := [.bool true, .bool true, .int .u8 n]) (e := .blit true) h rfl (rem_of hn hk) (congrArg (T.pick (envC true true n)) hartCalls_ev1_true_true) rfl
  · cases p <;> cases d
    · exact law_true (tabOk _) (v := envC false false n) (args := [.bool (.blit false), .bool (.blit false), .int .u8 (.var 0)]) (L := [.bool false, .bool false, .int .u8 n]) (e := .blit true) h rfl (rem_of hn hk) (congrArg (T.pick (envC false false n)) hartCalls_ev2_false_false) rfl
    · exact law_true (tabOk _) (v := envC false true n) (args := [.bool (.blit false), .bool (.blit true), .int .u8 (.var 0)]) (L := [.bool false, .bool true, .int .u8 n]) (e := .blit true) h rfl (rem_of hn hk) (congrArg (T.pick (envC false true n)) hartCalls_ev2_false_true) rfl
    · exact law_true (tabOk _) (v := envC true false n) (args := [.bool (.blit true), .bool (.blit false), .int .u8 (.var 0)]) (L := [.bool true, .bool false, .int .u8 n]) (e := .blit true) h rfl (rem_of hn hk) (congrArg (T.pick (envC true false n)) hartCalls_ev2_true_false) rfl
    · exact law_true (tabOk _) (v := envC true true n) (args := [.bool (.blit true), .bool (.blit true), .int .u8 (.var 0)]) (L := [.bool true, .bool true, .int .u8 n]) (e := .blit true) h rfl (rem_of hn hk) (congrArg (T.pick (envC true true n)) hartCalls_ev2_true_true) rfl
  · cases p <;> cases d
    · exact law_true (tabOk _) (v := envC false false n) (args := [.bool (.blit false), .bool (.blit false), .int .u8 (.var 0)]) (L := [.bool false, .bool false, .int .u8 n]) (e := .blit true) h rfl (rem_of hn hk) (congrArg (T.pick (envC false false n)) hartCalls_ev3_false_false) rfl
    · exact law_true (tabOk _) (v := envC false true n) (args := [.bool (.blit false), .bool (.blit true), .int .u8 (.var 0)]) (L := [.bool false, .bool true, .int .u8 n]) (e := .blit true) h rfl (rem_of hn hk) (congrArg (T.pick (envC false true n)) hartCalls_ev3_false_true) rfl
    · exact law_true (tabOk _) (v := envC true false n) (args := [.bool (.blit true), .bool (.blit false), .int .u8 (.var 0)]) (L := [.bool true, .bool false, .int .u8 n]) (e := .blit true) h rfl (rem_of hn hk) (congrArg (T.pick (envC true false n)) hartCalls_ev3_true_false) rfl
    · exact law_true (tabOk _) (v := envC true true n) (args := [.bool (.blit true), .bool (.blit true), .int .u8 (.var 0)]) (L := [.bool true, .bool true, .int .u8 n]) (e := .blit true) h rfl (rem_of hn hk) (congrArg (T.pick (envC true true n)) hartCalls_ev3_true_true) rfl
  · cases p <;> cases d
    · exact law_true (tabOk _) (v := envC false false n) (args := [.bool (.blit false), .bool (.blit false), .int .u8 (.var 0)]) (L := [.bool false, .bool false, .int .u8 n]) (e := .blit true) h rfl (rem_of hn hk) (congrArg (T.pick (envC false false n)) hartCalls_ev4_false_false) rfl
    · exact law_true (tabOk _) (v := envC false true n) (args := [.bool (.blit false), .bool (.blit true), .int .u8 (.var 0)]) (L := [.bool false, .bool true, .int .u8 n]) (e := .blit true) h rfl (rem_of hn hk) (congrArg (T.pick (envC false true n)) hartCalls_ev4_false_true) rfl
    · exact law_true (tabOk _) (v := envC true false n) (args := [.bool (.blit true), .bool (.blit false), .int .u8 (.var 0)]) (L := [.bool true, .bool false, .int .u8 n]) (e := .blit true) h rfl (rem_of hn hk) (congrArg (T.pick (envC true false n)) hartCalls_ev4_true_false) rfl
    · exact law_true (tabOk _) (v := envC true true n) (args := [.bool (.blit true), .bool (.blit true), .int .u8 (.var 0)]) (L := [.bool true, .bool true, .int .u8 n]) (e := .blit true) h rfl (rem_of hn hk) (congrArg (T.pick (envC true true n)) hartCalls_ev4_true_true) rfl
  · cases p <;> cases d
    · exact law_true (tabOk _) (v := envC false false n) (args := [.bool (.blit false), .bool (.blit false), .int .u8 (.var 0)]) (L := [.bool false, .bool false, .int .u8 n]) (e := .blit true) h rfl (rem_of hn hk) (congrArg (T.pick (envC false false n)) hartCalls_ev5_false_false) rfl
    · exact law_true (tabOk _) (v := envC false true n) (args := [.bool (.blit false), .bool (.blit true), .int .u8 (.var 0)]) (L := [.bool false, .bool true, .int .u8 n]) (e := .blit true) h rfl (rem_of hn hk) (congrArg (T.pick (envC false true n)) hartCalls_ev5_false_true) rfl
    · exact law_true (tabOk _) (v := envC true false n) (args := [.bool (.blit true), .bool (.blit false), .int .u8 (.var 0)]) (L := [.bool true, .bool false, .int .u8 n]) (e := .blit true) h rfl (rem_of hn hk) (congrArg (T.pick (envC true false n)) hartCalls_ev5_true_false) rfl
    · exact law_true (tabOk _) (v := envC true true n) (args := [.bool (.blit true), .bool (.blit true), .int .u8 (.var 0)]) (L := [.bool true, .bool true, .int .u8 n]) (e := .blit true) h rfl (rem_of hn hk) (congrArg (T.pick (envC true true n)) hartCalls_ev5_true_true) rfl
  · cases p <;> cases d
    · exact law_true (tabOk _) (v := envC false false n) (args := [.bool (.blit false), .bool (.blit false), .int .u8 (.var 0)]) (L := [.bool false, .bool false, .int .u8 n]) (e := .blit true) h rfl (rem_of hn hk) (congrArg (T.pick (envC false false n)) hartCalls_ev6_false_false) rfl
    · exact law_true (tabOk _) (v := envC false true n) (args := [.bool (.blit false), .bool (.blit true), .int .u8 (.var 0)]) (L := [.bool false, .bool true, .int .u8 n]) (e := .blit true) h rfl (rem_of hn hk) (congrArg (T.pick (envC false true n)) hartCalls_ev6_false_true) rfl
    · exact law_true (tabOk _) (v := envC true false n) (args := [.bool (.blit true), .bool (.blit false), .int .u8 (.var 0)]) (L := [.bool true, .bool false, .int .u8 n]) (e := .blit true) h rfl (rem_of hn hk) (congrArg (T.pick (envC true false n)) hartCalls_ev6_true_false) rfl
    · exact law_true (tabOk _) (v := envC true true n) (args := [.bool (.blit true), .bool (.blit true), .int .u8 (.var 0)]) (L := [.bool true, .bool true, .int .u8 n]) (e := .blit true) h rfl (rem_of hn hk) (congrArg (T.pick (envC true true n)) hartCalls_ev6_true_true) rfl
  · cases p <;> cases d
    · exact law_true (tabOk _) (v := envC false false n) (args := [.bool (.blit false), .bool (.blit false), .int .u8 (.var 0)]) (L := [.bool false, .bool false, .int .u8 n]) (e := .blit true) h rfl (rem_of hn hk) (congrArg (T.pick (envC false false n)) hartCalls_ev7_false_false) rfl
    · exact law_true (tabOk _) (v := envC false true n) (args := [.bool (.blit false), .bool (.blit true), .int .u8 (.var 0)]) (L := [.bool false, .bool true, .int .u8 n]) (e := .blit true) h rfl (rem_of hn hk) (congrArg (T.pick (envC false true n)) hartCalls_ev7_false_true) rfl
    · exact law_true (tabOk _) (v := envC true false n) (args := [.bool (.blit true), .bool (.blit false), .int .u8 (.var 0)]) (L := [.bool true, .bool false, .int .u8 n]) (e := .blit true) h rfl (rem_of hn hk) (congrArg (T.pick (envC true false n)) hartCalls_ev7_true_false) rfl
    · exact law_true (tabOk _) (v := envC true true n) (args := [.bool (.blit true), .bool (.blit true), .int .u8 (.var 0)]) (L := [.bool true, .bool true, .int .u8 n]) (e := .blit true) h rfl (rem_of hn hk) (congrArg (T.pick (envC true true n)) hartCalls_ev7_true_true) rfl
set_option maxRecDepth 100000 in
theorem hartCalls_lifted (os : Os) (started : os.Started) (H : Type) (enc : TypeId × Value → H) :
    ReturnsInHanded {} Tryz.checked os 9 .any (fun w args => (Rows.hartCallsSpec.pre enc Tryz.prog Tryz.f9 [] false w args ∧ laidMetH Tryz.prog laid w) ∧ sizedMet enc Tryz.prog Tryz.f9 (OpenSpec.ofChange Rows.hartCallsSpec) false w args)
      (Rows.hartCallsSpec.post enc Tryz.prog Tryz.f9 false true false false) := by
  refine wrap (C := Tryz.checked) (X := fun w _ => laidMetH Tryz.prog laid w) (fun _ _ _ hh h => h.of_heap hh) own started (by kernel_rfl) Tryz.func9
    (ChangeSpec.witness_at (enc := enc) (C := Tryz.checked) (X := fun w _ => laidMetH Tryz.prog laid w) false (World.laidAll Tryz.prog os laid) #[.bool false, .bool false, .int .u8 0] 8 (World.laidAll_os _ _ _) (by kernel_rfl) (by kernel_rfl) (by kernel_rfl) (by kernel_rfl) (by kernel_rfl)
      (by rw [MakeChecks.laidMetH_plain _ _ _ (by kernel_rfl)]; exact laidMet_laidAll _ (by kernel_rfl) (by kernel_rfl))) ?_
  intro W base args ds gs before hval0 hW _ hL hsh
  have hval : ∀ (j : Nat) t v, Tryz.f9.params[j]? = some t → args[j]? = some v → Value.okWide Tryz.prog W .any base t v := hval0
  have hW' := hW
  obtain ⟨p, q, hA0, hV, rfl, hfz, hnd⟩ := hW
  have hA : DataW.TrodAll enc Tryz.prog W 0 (fun _ => true) true Tryz.f9.params.toList args.toList ds p := hA0
  rw [Tryz.params9] at hA hval
  obtain ⟨v0, v1, v2, d0, d1, d2, p0, p1, p2, rfl, rfl, rfl, h0, h1, h2⟩ := trodAll_three hA
  obtain ⟨a, rfl, rfl, rfl⟩ := open_bool Tryz.underlying4 (hval 0 4 v0 rfl rfl) h0
  obtain ⟨b, rfl, rfl, rfl⟩ := open_bool Tryz.underlying4 (hval 1 4 v1 rfl rfl) h1
  obtain ⟨n, rfl, rfl, rfl, wn⟩ := open_int Tryz.underlying5 (hval 2 5 v2 rfl rfl) h2
  have hn : 0 ≤ n ∧ n ≤ 255 := by simpa [Lit.wf, IntKind.min, IntKind.max, IntKind.signed, IntKind.bits] using wn
  obtain ⟨rfl, rfl⟩ := trodVars_none hV
  clear hA0 hval0
  simp only [List.append_nil] at hW'
  refine (hartCalls_run a b n hn W (gl_of hsh hL)).mono fun e W' ⟨he, hb⟩ => ?_
  subst he
  exact ⟨_, rfl, _, _, _, [], [], [], hW', trodAll_mk1 (shut_bool Tryz.underlying4 true), trodAll_mk3 (shut_bool Tryz.underlying4 a) (shut_bool Tryz.underlying4 b) (shut_int Tryz.underlying5 wn), rfl, hb.frame _, fun h => by cases h⟩
theorem hartCalls_holds : Rows.HartCallsSaid :=
  OpenClaim.holds_of_wide 9 Tryz.f9 rfl rfl rfl rfl rfl rfl rfl ⟨rfl, rfl, rfl, rfl, rfl⟩ rfl rfl rfl rfl rfl (by kernel_rfl) Tryz.func9 (by kernel_rfl)
    (of_decide_eq_true (by kernel_rfl)) (by unfold Func.isWrapper; first | (rw [if_pos (by decide +kernel)]; kernel_rfl) | (rw [if_neg (by decide +kernel)]; exact ⟨rfl, rfl⟩))
    (fun os started H enc _ => hartCalls_lifted os started H enc)
theorem hartCalls_card : Rows.HartCallsCardSaid :=
  Claim7.holds_tied_plain_at .later [] [.data, .data, .data] true (true, "78edcb684109728d7a314d77ed62bcf9b9a4a18a23a89d810ea213b920f1d2a7") true
    hartCalls_holds (fun _ h => by cases h) (by kernel_rfl) (fun _ h => by cases h) hartCalls_row_tie rfl ⟨rfl, rfl⟩ (by kernel_rfl) rfl
    (fun f fn hf hfn => by
      obtain rfl : f = 9 := Option.some.inj ((show Tryz.prog.funcNamed "dioptra/dioptralaw19.HartCalls" = some 9 by kernel_rfl).symm.trans hf) |>.symm
      obtain rfl : fn = Tryz.f9 := (Option.some.inj (Tryz.func9.symm.trans hfn)).symm
      exact ⟨by kernel_rfl, fun j t ht => by
        rw [Tryz.params9] at ht
        have hm : t ∈ [4, 4, 5] := by simpa using Array.mem_of_getElem? ht
        have hall : ([4, 4, 5].all fun u => !Tryz.prog.wantsStandIn u) = true := by kernel_rfl
        exact (show Tryz.prog.wantsStandIn t = false by simpa using List.all_eq_true.1 hall t hm)⟩)
    (by kernel_rfl)
#print axioms hartCalls_card
end Go.Proofs.YtancmkdmlghlpaaGreatDoor
