/- What the laws are given. -/
import Derived.Test.YtmcofekpjjmjmaaM20
import Derived.Test.YtmcofekpjjmjmaaS1
import Derived.Test.YtmcofekpjjmjmaaProg
import Derived.KernelRfl
namespace Go.Proofs.Ytmcofekpjjmjmaa.Am
open Go

theorem dc_Mementolaw1_Act : Cd Try.prog 53 2 (fun ps => ∃ a : Mementolaw1_Act, ps = c_Mementolaw1_Act a ∧ ok_Mementolaw1_Act a) := Cd.mono (fun ps hx => by
  obtain ⟨_, _, rfl, ⟨x0, rfl, h0⟩, ⟨_, _, rfl, ⟨x1, rfl, h1⟩, rfl⟩⟩ := hx
  exact ⟨⟨x0, x1⟩, rfl, h0, h1⟩) (Cd_struct (zs := [1, 1]) (Rs := [fun ps => ∃ z, ps = c_bool z ∧ True, fun ps => ∃ z, ps = c_u64 z ∧ Ik .u64 z]) Try.underlying53 (by kernel_rfl) (by decide) ⟨rfl, by kernel_rfl, (Cd_b Try.underlying4), rfl, by kernel_rfl, (Cd_ik (c := c_u64) (fun _ => rfl) Try.underlying23), trivial⟩)

end Go.Proofs.Ytmcofekpjjmjmaa.Am
