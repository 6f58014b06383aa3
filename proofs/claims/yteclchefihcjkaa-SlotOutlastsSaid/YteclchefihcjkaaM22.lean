/- Rows of one's own: parts of them, cut, cleared. -/
import Derived.Test.YteclchefihcjkaaM21
namespace Go.Proofs.Yteclchefihcjkaa.Am
open Go
set_option linter.unusedVariables false

section
variable {α : Type} {c : α → List PV} {z : Nat} {P : Program} {fr : Frm} {H : Mem} {dst : Option Nat} {ty : TypeId} {pos : String} {after : Array Edge} {guard : Option (Nat × Bool)}

/-- A part of a row of one's own. -/
theorem o_sliceHO {t e : TypeId} {x : Operand} {lo hi : Option Operand} {s b id n m k o : Nat} {zz : Option Value} {lo' hi' : Option (IntKind × Int)} (hu : P.underlying t = some (.slice e)) (hti : tinf P e = some (s, b, zz)) (hx : aev fr x = .hs id 0 n m s)
    (hl : bnd fr lo = some lo') (hh : bnd fr hi = some hi') (hs : slcH m (bd0 lo' 0) (bd0 hi' n) = some (o, k)) : OpS P ⟨dst, .slice t x lo hi none, ty, pos, after, guard⟩ fr H (Det (.hs id (o * s) k (m - o) s) H) := by
  obtain ⟨h0, h1, h2, rfl, rfl⟩ := slcH_some hs
  refine opS_slice (m := none) hl hh rfl ?_
  refine ⟨fun h => (by cases h), ?_⟩
  simp only [hu, hti, hx]
  refine ⟨trivial, h0, h1, h2, Int.le_refl _, ?_⟩
  rw [Nat.zero_add]
  exact ⟨.refl _, rfl⟩

end
end Go.Proofs.Yteclchefihcjkaa.Am
