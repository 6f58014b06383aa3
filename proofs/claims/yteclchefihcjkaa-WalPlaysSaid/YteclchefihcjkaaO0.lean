/- Partial functions over lists: how a loop ends, what their parts are. -/
import Derived.Test.YteclchefihcjkaaD0
namespace Go.Proofs.Yteclchefihcjkaa.Am
open Go
set_option linter.unusedVariables false

/-- A loop whose result can be told of any of its states. -/
theorem loop_eq {S T : Type} {b : S → Option (Ctl T S)} (I : S → Prop) (m : S → Nat) (R : S → T)
    (step : ∀ s, I s → b s = some (.ret (R s)) ∨ ∃ s', b s = some (.go s') ∧ I s' ∧ m s' < m s ∧ R s' = R s) : ∀ (n : Nat) (s : S), I s → m s < n → loopN b n s = some (R s)
  | 0, s, _, h => absurd h (Nat.not_lt_zero _)
  | n + 1, s, hI, hm => by
    simp only [loopN]
    rcases step s hI with h | ⟨s', h, h1, h2, h3⟩
    · rw [h]
    · rw [h]
      simp only
      rw [loop_eq I m R step n s' h1 (by omega), h3]

theorem loop_eqF {S T : Type} {b : S → Option (Ctl T S)} (I : S → Prop) (m : S → Nat) (R : S → T) {s : S} (hI : I s) (hm : m s ≤ 1099511627776)
    (step : ∀ s, I s → b s = some (.ret (R s)) ∨ ∃ s', b s = some (.go s') ∧ I s' ∧ m s' < m s ∧ R s' = R s) : loopN b fuel s = some (R s) :=
  loop_eq I m R step fuel s hI (by unfold fuel; omega)

/-- A loop of whose result something is so. -/
theorem loop_Q {S T : Type} {b : S → Option (Ctl T S)} (I : S → Prop) (m : S → Nat) (Q : T → Prop)
    (step : ∀ s, I s → (∃ t, b s = some (.ret t) ∧ Q t) ∨ ∃ s', b s = some (.go s') ∧ I s' ∧ m s' < m s) : ∀ (n : Nat) (s : S), I s → m s < n → ∃ t, loopN b n s = some t ∧ Q t
  | 0, s, _, h => absurd h (Nat.not_lt_zero _)
  | n + 1, s, hI, hm => by
    simp only [loopN]
    rcases step s hI with ⟨t, h, q⟩ | ⟨s', h, h1, h2⟩
    · rw [h]; exact ⟨t, rfl, q⟩
    · rw [h]
      exact loop_Q I m Q step n s' h1 (by omega)
theorem loop_QF {S T : Type} {b : S → Option (Ctl T S)} (I : S → Prop) (m : S → Nat) (Q : T → Prop) {s : S} (hI : I s) (hm : m s ≤ 1099511627776)
    (step : ∀ s, I s → (∃ t, b s = some (.ret t) ∧ Q t) ∨ ∃ s', b s = some (.go s') ∧ I s' ∧ m s' < m s) : ∃ t, loopN b fuel s = some t ∧ Q t :=
  loop_Q I m Q step fuel s hI (by unfold fuel; omega)

theorem idx_nat {α : Type} (l : List α) (i : Nat) : idx l (i : Int) = l[i]? := by unfold idx; rw [if_pos (by omega)]; simp
theorem idx_at {α : Type} {l : List α} {i : Nat} (h : i < l.length) : idx l (i : Int) = some l[i] := by rw [idx_nat, List.getElem?_eq_getElem h]
theorem slc_nat {α : Type} (l : List α) {a b : Nat} (h : a ≤ b) (hb : b ≤ l.length) : slc l (a : Int) (b : Int) = some ((l.take b).drop a) := by
  unfold slc; rw [if_pos ⟨by omega, by omega, by omega⟩]; simp
theorem app_of {α : Type} {b : Nat} {x y : List α} (h : (x.length + y.length) * b ≤ 140737488355328) (h2 : x.length + y.length ≤ 1099511627776) : app b x y = some (x ++ y) := by unfold app; rw [if_pos ⟨h, by omega⟩]
theorem updL_nat {α : Type} {l : List α} {i : Nat} {x : α} (h : i < l.length) : updL l (i : Int) x = some (l.set i x) := by unfold updL; rw [if_pos ⟨by omega, by omega⟩]; simp
theorem kont_ret {E S : Type} {e : E} {f : S → Option E} : kont (some (.ret e)) f = some e := rfl
theorem kont_go' {E S : Type} {s : S} {f : S → Option E} : kont (some (.go s)) f = f s := rfl
theorem wrap64u {n : Int} (h0 : 0 ≤ n) (h1 : n < 18446744073709551616) : IntKind.u64.wrap n = n := wrapU rfl h0 (by
  have : (2 : Int) ^ IntKind.u64.bits = 18446744073709551616 := by decide
  omega)

/-- The bytes that a program may hold. -/
def Byt (l : List Int) : Prop := ∀ x ∈ l, 0 ≤ x ∧ x < 256

end Go.Proofs.Yteclchefihcjkaa.Am
