/- Calls that are walked by the library's own laws (ranges over a function): from entries of memory to worlds, and back. -/
import Derived.Test.YteoalgkckhijlaaM18
import Derived.RangeFuncNested
import Derived.RangeFuncBound
import Derived.RangeFuncCalls
import Derived.RangeFuncLeaves
namespace Go.Proofs.Yteoalgkckhijlaa.Am
open Go Go.RowKit
set_option linter.unusedVariables false

/-- What lay stays: the memory is as it was. -/
theorem MR.below {g : Gh} {H : Mem} {w w' : World} (hm : MR g H w) (hb : Below w.heap.size w w') : MR g H w' ∧ Ev H.length g w g w' :=
  ⟨⟨fun b o v hv => (cell_of (w := w) (w' := w') (a := ⟨b, o, none⟩) (hb.block b (hm.ro_lt hv))).trans (hm.ro b o v hv),
    fun id e he => (hm.ent id e he).keep (lt_of_get he) (.refl _ _) (Nat.le_refl _) fun b ho => ⟨ho, fun _ => rfl, hb.block b (hm.ow b id ho).1⟩,
    fun b id ho => ⟨Nat.lt_of_lt_of_le (hm.ow b id ho).1 hb.size, (hm.ow b id ho).2⟩⟩,
   ⟨.refl _ _, fun b hbl ho => ⟨ho, hb.block b hbl⟩, hb.size, hb.os, hb.tape, hb.output⟩⟩

theorem acalls_of_below {P : Program} {f : FuncId} {args : List AV} {H : Mem} {x : Value} (hcl : callable P f = true)
    (h : ∀ (g : Gh) (w : World) (vals : Array Value), MR g H w → vals.size = args.length → (∀ (i : Nat) c, args[i]? = some c → VR g H.length c (vals.getD i undef)) →
      Calls P f vals w fun e w' => e = .returned x ∧ Below w.heap.size w w') : ACalls P f args H fun r H' => r = .sc x ∧ H' = H :=
  ⟨hcl, fun g w vals hm hs hv => (h g w vals hm hs hv).mono fun e w' ⟨he, hb⟩ =>
    have q := hm.below hb
    ⟨x, he, .sc x, H, g, ⟨rfl, rfl⟩, .sc x, q.1, q.2, Nat.le_refl _⟩⟩

/-- A slice value holds whole numbers, in a block below n₀; or there are none. -/
def Ints (n₀ : Nat) (W : World) (sv : Value) (zs : List Int) : Prop :=
  (zs = [] ∧ ∃ a cap, sv = .slice a 0 cap) ∨ ∃ b off cap, sv = .slice (some ⟨b, off, none⟩) zs.length cap ∧ b < n₀ ∧ ∀ j, j < zs.length → W.cell? ⟨b, off + j, none⟩ = some (.int .i64 (zs[j]?.getD 0))

theorem Ints.below {n₀ : Nat} {A B : World} (h : Below n₀ A B) {sv : Value} {zs : List Int} : Ints n₀ A sv zs → Ints n₀ B sv zs
  | .inl e => .inl e
  | .inr ⟨b, off, cap, e, hb, hc⟩ => .inr ⟨b, off, cap, e, hb, fun j hj => (h.cell (p := ⟨b, off + j, none⟩) hb).trans (hc j hj)⟩

theorem Ints.le {n₀ n₁ : Nat} {A : World} {sv : Value} {zs : List Int} (hn : n₀ ≤ n₁) : Ints n₀ A sv zs → Ints n₁ A sv zs
  | .inl e => .inl e
  | .inr ⟨b, off, cap, e, hb, hc⟩ => .inr ⟨b, off, cap, e, Nat.lt_of_lt_of_le hb hn, hc⟩

theorem Ints.slice {n₀ : Nat} {A : World} {sv : Value} {zs : List Int} (h : Ints n₀ A sv zs) : ∃ a cap, sv = .slice a zs.length cap := by
  rcases h with ⟨rfl, a, cap, e⟩ | ⟨b, off, cap, e, _⟩
  · exact ⟨a, cap, e⟩
  · exact ⟨_, cap, e⟩

theorem flat_i64 (zs : List Int) : (zs.map c_i64).flatten = zs.map fun x => PV.sc (.int .i64 x) := by
  induction zs with
  | nil => rfl
  | cons x l ih => rw [List.map_cons, List.flatten_cons, ih]; rfl

theorem PR_i64 {ro : Nat → Nat → Option Value} {u v : Value} (h : PR ro (.sc u) v) : v = u := by cases h; rfl

theorem Ints.of_VR {g : Gh} {H : Mem} {w : World} {zs : List Int} {k : Tk} {v : Value} (hm : MR g H w) (h : VR g H.length (.sl 1 (zs.map c_i64) k) v) : Ints w.heap.size w v zs := by
  generalize he : zs.map c_i64 = es at h
  cases h with
  | nil z k hk => exact .inl ⟨by simpa using he, none, 0, rfl⟩
  | sl z es k a cap f hsp hcap hz hrow hk =>
    have hl : es.length = zs.length := by rw [← he]; simp
    by_cases h0 : zs = []
    · subst h0; exact .inl ⟨rfl, some a, cap, by rw [hl]; rfl⟩
    · have hp : 0 < zs.length := List.length_pos_iff.2 h0
      have hs : a.spot = none := hsp.resolve_left (by omega)
      obtain ⟨b, o, s⟩ := a
      simp only at hs
      subst hs
      have hcell : ∀ j, j < zs.length → g.ro b (o + j) = some (.int .i64 (zs[j]?.getD 0)) := fun j hj => by
        have q := hrow j (.sc (.int .i64 (zs[j]?.getD 0))) (by rw [← he, flat_i64]; simp [hj])
        rw [PR_i64 q.2] at q
        exact q.1
      exact .inr ⟨b, o, cap, by rw [hl], hm.ro_lt (hcell 0 hp), fun j hj => hm.ro _ _ _ (hcell j hj)⟩

end Go.Proofs.Yteoalgkckhijlaa.Am
