/- dioptralaw19.alive answers true, and leaves memory as it is; the table with it. No statement is proved here. -/
import Derived.Test.YtancmkdmlghlpaaGreatDoorEv0
namespace Go.Proofs.YtancmkdmlghlpaaGreatDoor
open Go Go.RowKit Ev
theorem alive_ev : evF cx0 8000 10 [] stG [] = .leaf ⟨.ret (.bool (.blit true)), stG⟩ := by kernel_rfl
def tabF : FuncId → List SV → St → Option SV := fun f args s => match Nat.beq f 10 && stEqb (s.take 3) stG, args with
  | true, [] => some (.bool (.blit true))
  | _, _ => tabF0 f args s
noncomputable def cx : Cx := cxT tabF
theorem tabOk (v : Env) : TabOk cx v := by
  intro f args s x h ρ w L hR hL
  change tabF f args s = some x at h
  unfold tabF at h
  split at h
  · rename_i hc
    simp only [Bool.and_eq_true] at hc
    have hf : f = 10 := Nat.eq_of_beq_eq_true hc.1
    have hs := stEqb_eq hc.2
    subst hf
    injection h with h
    subst h
    injection hL with hL
    subst hL
    have hR0 : Rep cx0 rhoG v stG w := rep_stG hR hs
    refine (evF_ok fit (c := cx0) (fun f args s x h ρ w L hR hL => tabOk0 v f args s x h ρ w L hR hL) (n := 8000) (f := 10) (args := []) (s := stG) (p := []) rfl hR0 (fun _ h => by cases h) (l := ⟨.ret (.bool (.blit true)), stG⟩) (by rw [alive_ev]; rfl)).mono fun e' w' ⟨ρ', ho, hr, V, hV, e2⟩ => ?_
    obtain ⟨k1, k2⟩ := keep_stG hR hs ho hr
    exact ⟨V, e2, hV, k1, k2⟩
  · exact tabOk0 v f _ s x h ρ w L hR hL
end Go.Proofs.YtancmkdmlghlpaaGreatDoor
