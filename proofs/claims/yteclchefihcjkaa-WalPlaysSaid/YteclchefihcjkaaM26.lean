/- Ranges over maps of one's own: each entry once, in whatever order. -/
import Derived.Test.YteclchefihcjkaaM25
namespace Go.Proofs.Yteclchefihcjkaa.Am
open Go
open Go.ChangeMaps (setBlock)
open Go.MapKept (Stamped IsKey)
set_option linter.unusedVariables false

/-- What is known of a map's entries, but for what their values are. -/
structure MapP (es : List (Value × AV)) (ents : Array MapEntry) (clock : Nat) : Prop where
  st : Stamped ents clock
  keys : es.Pairwise fun x y => x.1 ≠ y.1
  key : ∀ x, x ∈ ents.toList → ∃ a, (x.key, a) ∈ es
  ent : ∀ k a, (k, a) ∈ es → ∃ x, x ∈ ents.toList ∧ x.key = k

theorem MapR.p {g : Gh} {n : Nat} {es : List (Value × AV)} {ents : Array MapEntry} {clock : Nat} (h : MapR g n es ents clock) : MapP es ents clock :=
  ⟨h.st, h.keys, h.all, fun k a ha => let ⟨x, x1, x2, _⟩ := h.get k a ha; ⟨x, x1, x2⟩⟩

section
variable {P : Program} {fr : Frm} {H : Mem} {dst : Option Nat} {ty : TypeId} {pos : String} {after : Array Edge} {guard : Option (Nat × Bool)}

end

/-! ## one map into another one -/

section
variable {β : Type}
end
end Go.Proofs.Yteclchefihcjkaa.Am
