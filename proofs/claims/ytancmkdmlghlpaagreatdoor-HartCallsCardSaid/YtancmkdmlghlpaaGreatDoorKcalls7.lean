/- dioptralaw19.HartCalls: the reckoner's runs. -/
import Derived.Test.YtancmkdmlghlpaaGreatDoorKalive
namespace Go.Proofs.YtancmkdmlghlpaaGreatDoor
open Go Go.RowKit Ev
theorem hartCalls_ev7_true_true : evF cx 8000 9 [.bool (.blit true), .bool (.blit true), .int .u8 (.var 0)] stG [(.cmp .eql (.bin .rem .u32 (.cv .u32 (.var 0)) (.lit 8)) (.lit 7), true)] = .leaf ⟨.ret (.bool (.blit true)), stG⟩ := by kernel_rfl
theorem hartCalls_ev7_true_false : evF cx 8000 9 [.bool (.blit true), .bool (.blit false), .int .u8 (.var 0)] stG [(.cmp .eql (.bin .rem .u32 (.cv .u32 (.var 0)) (.lit 8)) (.lit 7), true)] = .leaf ⟨.ret (.bool (.blit true)), stG⟩ := by kernel_rfl
theorem hartCalls_ev7_false_true : evF cx 8000 9 [.bool (.blit false), .bool (.blit true), .int .u8 (.var 0)] stG [(.cmp .eql (.bin .rem .u32 (.cv .u32 (.var 0)) (.lit 8)) (.lit 7), true)] = .leaf ⟨.ret (.bool (.blit true)), stG⟩ := by kernel_rfl
theorem hartCalls_ev7_false_false : evF cx 8000 9 [.bool (.blit false), .bool (.blit false), .int .u8 (.var 0)] stG [(.cmp .eql (.bin .rem .u32 (.cv .u32 (.var 0)) (.lit 8)) (.lit 7), true)] = .leaf ⟨.ret (.bool (.blit true)), stG⟩ := by kernel_rfl
end Go.Proofs.YtancmkdmlghlpaaGreatDoor
