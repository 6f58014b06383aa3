/- What the laws are given. -/
import Derived.Test.YtbjleolchcajkaaM20
import Derived.Test.YtbjleolchcajkaaS9
import Derived.Test.YtbjleolchcajkaaProg
import Derived.KernelRfl
namespace Go.Proofs.Ytbjleolchcajkaa.Am
open Go
def ok_Mementolaw9_Act (x : Mementolaw9_Act) : Prop := Ik .u8 x.What ∧ Ik .u8 x.A ∧ Ik .u8 x.B ∧ Ik .u8 x.C ∧ ((∀ y0 ∈ x.L, Ik .u8 y0) ∧ x.L.length * 1 ≤ 140737488351232)

theorem dc_Mementolaw9_Act : Cd Try.prog 56 5 (fun ps => ∃ a : Mementolaw9_Act, ps = c_Mementolaw9_Act a ∧ ok_Mementolaw9_Act a) := Cd.mono (fun ps hx => by
  obtain ⟨_, _, rfl, ⟨x0, rfl, h0⟩, ⟨_, _, rfl, ⟨x1, rfl, h1⟩, ⟨_, _, rfl, ⟨x2, rfl, h2⟩, ⟨_, _, rfl, ⟨x3, rfl, h3⟩, ⟨_, _, rfl, ⟨x4, rfl, h4⟩, rfl⟩⟩⟩⟩⟩ := hx
  exact ⟨⟨x0, x1, x2, x3, x4⟩, rfl, h0, h1, h2, h3, h4⟩) (Cd_struct (zs := [1, 1, 1, 1, 1]) (Rs := [fun ps => ∃ z, ps = c_u8 z ∧ Ik .u8 z, fun ps => ∃ z, ps = c_u8 z ∧ Ik .u8 z, fun ps => ∃ z, ps = c_u8 z ∧ Ik .u8 z, fun ps => ∃ z, ps = c_u8 z ∧ Ik .u8 z, fun ps => ∃ z, ps = (c_L 1 c_u8) z ∧ ((∀ y0 ∈ z, Ik .u8 y0) ∧ z.length * 1 ≤ 140737488351232)]) Try.underlying56 (by kernel_rfl) (by decide) ⟨rfl, by kernel_rfl, (Cd_ik (c := c_u8) (fun _ => rfl) Try.underlying5), rfl, by kernel_rfl, (Cd_ik (c := c_u8) (fun _ => rfl) Try.underlying5), rfl, by kernel_rfl, (Cd_ik (c := c_u8) (fun _ => rfl) Try.underlying5), rfl, by kernel_rfl, (Cd_ik (c := c_u8) (fun _ => rfl) Try.underlying5), rfl, by kernel_rfl, (Cd_l (c := c_u8) (b := 1) Try.underlying22 (by kernel_rfl) (by kernel_rfl) (by decide) (Cd_ik (c := c_u8) (fun _ => rfl) Try.underlying5)), trivial⟩)

end Go.Proofs.Ytbjleolchcajkaa.Am
