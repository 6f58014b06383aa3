/- What the laws are given. -/
import Derived.Test.YteclchefihcjkaaM20
import Derived.Test.YteclchefihcjkaaS4
import Derived.Test.YteclchefihcjkaaProg
import Derived.KernelRfl
namespace Go.Proofs.Yteclchefihcjkaa.Am
open Go

theorem dc_Slot_Slot : Cd Try.prog 42 3 (fun ps => ∃ a : Slot_Slot, ps = c_Slot_Slot a ∧ ok_Slot_Slot a) := Cd.mono (fun ps hx => by
  obtain ⟨_, _, rfl, ⟨x0, rfl, h0⟩, ⟨_, _, rfl, ⟨x1, rfl, h1⟩, ⟨_, _, rfl, ⟨x2, rfl, h2⟩, rfl⟩⟩⟩ := hx
  exact ⟨⟨x0, x1, x2⟩, rfl, h0, h1, h2⟩) (Cd_struct (zs := [1, 1, 1]) (Rs := [fun ps => ∃ z, ps = c_u64 z ∧ Ik .u64 z, fun ps => ∃ z, ps = c_u64 z ∧ Ik .u64 z, fun ps => ∃ z, ps = c_i64 z ∧ Ik .i64 z]) Try.underlying42 (by kernel_rfl) (by decide) ⟨rfl, by kernel_rfl, (Cd_ik (c := c_u64) (fun _ => rfl) Try.underlying23), rfl, by kernel_rfl, (Cd_ik (c := c_u64) (fun _ => rfl) Try.underlying23), rfl, by kernel_rfl, (Cd_ik (c := c_i64) (fun _ => rfl) Try.underlying3), trivial⟩)

end Go.Proofs.Yteclchefihcjkaa.Am
