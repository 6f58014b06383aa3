/- What the laws are given. -/
import Derived.Test.YtjckcocakjaaeaaM20
import Derived.Test.YtjckcocakjaaeaaS13
import Derived.Test.YtjckcocakjaaeaaProg
import Derived.KernelRfl
namespace Go.Proofs.Ytjckcocakjaaeaa.Am
open Go

theorem dc_Api_Version : Cd Try.prog 70 2 (fun ps => ∃ a : Api_Version, ps = c_Api_Version a ∧ ok_Api_Version a) := Cd.mono (fun ps hx => by
  obtain ⟨_, _, rfl, ⟨x0, rfl, h0⟩, ⟨_, _, rfl, ⟨x1, rfl, h1⟩, rfl⟩⟩ := hx
  exact ⟨⟨x0, x1⟩, rfl, h0, h1⟩) (Cd_struct (zs := [1, 1]) (Rs := [fun ps => ∃ z, ps = c_i64 z ∧ Ik .i64 z, fun ps => ∃ z, ps = (c_L 1 c_u8) z ∧ (∀ y0 ∈ z, Ik .u8 y0)]) Try.underlying70 (by kernel_rfl) (by decide) ⟨rfl, by kernel_rfl, (Cd_ik (c := c_i64) (fun _ => rfl) Try.underlying2), rfl, by kernel_rfl, (Cd_l (c := c_u8) Try.underlying22 (by kernel_rfl) (by decide) (Cd_ik (c := c_u8) (fun _ => rfl) Try.underlying5)), trivial⟩)

end Go.Proofs.Ytjckcocakjaaeaa.Am
