/- What the laws are given. -/
import Derived.Test.YtombabaadbobpaaM20
import Derived.Test.YtombabaadbobpaaS19
import Derived.Test.YtombabaadbobpaaProg
import Derived.KernelRfl
namespace Go.Proofs.Ytombabaadbobpaa.Am
open Go

theorem dc_Api_Flight : Cd Try.prog 35 3 (fun ps => ∃ a : Api_Flight, ps = c_Api_Flight a ∧ ok_Api_Flight a) := Cd.mono (fun ps hx => by
  obtain ⟨_, _, rfl, ⟨x0, rfl, h0⟩, ⟨_, _, rfl, ⟨x1, rfl, h1⟩, ⟨_, _, rfl, ⟨x2, rfl, h2⟩, rfl⟩⟩⟩ := hx
  exact ⟨⟨x0, x1, x2⟩, rfl, h0, h1, h2⟩) (Cd_struct (zs := [1, 1, 1]) (Rs := [fun ps => ∃ z, ps = c_i64 z ∧ Ik .i64 z, fun ps => ∃ z, ps = c_i64 z ∧ Ik .i64 z, fun ps => ∃ z, ps = (c_L 1 c_u8) z ∧ ((∀ y0 ∈ z, Ik .u8 y0) ∧ z.length * 1 ≤ 140737488351232)]) Try.underlying35 (by kernel_rfl) (by decide) ⟨rfl, by kernel_rfl, (Cd_ik (c := c_i64) (fun _ => rfl) Try.underlying3), rfl, by kernel_rfl, (Cd_ik (c := c_i64) (fun _ => rfl) Try.underlying3), rfl, by kernel_rfl, (Cd_l (c := c_u8) (b := 1) Try.underlying33 (by kernel_rfl) (by kernel_rfl) (by decide) (Cd_ik (c := c_u8) (fun _ => rfl) Try.underlying5)), trivial⟩)

theorem dc_Mementolaw19_Act : Cd Try.prog 31 3 (fun ps => ∃ a : Mementolaw19_Act, ps = c_Mementolaw19_Act a ∧ ok_Mementolaw19_Act a) := Cd.mono (fun ps hx => by
  obtain ⟨_, _, rfl, ⟨x0, rfl, h0⟩, ⟨_, _, rfl, ⟨x1, rfl, h1⟩, ⟨_, _, rfl, ⟨x2, rfl, h2⟩, rfl⟩⟩⟩ := hx
  exact ⟨⟨x0, x1, x2⟩, rfl, h0, h1, h2⟩) (Cd_struct (zs := [1, 1, 1]) (Rs := [fun ps => ∃ z, ps = c_u8 z ∧ Ik .u8 z, fun ps => ∃ z, ps = c_i64 z ∧ Ik .i64 z, fun ps => ∃ z, ps = (c_L 3 c_Api_Flight) z ∧ ((∀ y0 ∈ z, ok_Api_Flight y0) ∧ z.length * 40 ≤ 140737488351232)]) Try.underlying31 (by kernel_rfl) (by decide) ⟨rfl, by kernel_rfl, (Cd_ik (c := c_u8) (fun _ => rfl) Try.underlying5), rfl, by kernel_rfl, (Cd_ik (c := c_i64) (fun _ => rfl) Try.underlying3), rfl, by kernel_rfl, (Cd_l (c := c_Api_Flight) (b := 40) Try.underlying27 (by kernel_rfl) (by kernel_rfl) (by decide) dc_Api_Flight), trivial⟩)

end Go.Proofs.Ytombabaadbobpaa.Am
