/- From calls told by values to a law's row: what the arguments are. -/
import Derived.SizedLaws
import Derived.Test.YteclchefihcjkaaM15
import Derived.Deep.Slices
import Derived.Below
import Derived.Carry
namespace Go.Proofs.Yteclchefihcjkaa.Am
open Go Go.RowKit Go.Deep

/-- All that a world holds, as what never changes. -/
def g0 (W : World) : Gh := ⟨fun b o => W.cell? ⟨b, o, none⟩, fun _ => none, fun _ => ⟨0, 1, 0⟩⟩

theorem MR0 (W : World) : MR (g0 W) [] W := ⟨fun _ _ _ h => h, fun id e h => by simp at h, fun b id h => by cases h⟩

theorem ACalls.below {P : Program} {f : FuncId} {args : List AV} (h : ACalls P f args [] fun r _ => r = .sc (.bool true)) {W : World} {vals : Array Value} (hs : vals.size = args.length)
    (hv : ∀ (i : Nat) c, args[i]? = some c → VR (g0 W) 0 c (vals.getD i undef)) : Calls P f vals W fun e W' => e = .returned (.bool true) ∧ Below W.heap.size W W' :=
  (h.2 (g0 W) W vals (MR0 W) hs hv).mono fun _ _ ⟨v, he, r, H', g', hr, hvr, _, ev, _⟩ => by
    subst hr
    cases hvr
    exact ⟨he, ev.os, ev.tape, ev.output, ev.size, fun k hk => (ev.un k hk rfl).2⟩

/-- What the cells of a value of a type read as, where they read at all. -/
def Cd (P : Program) (t : TypeId) (z : Nat) (R : List PV → Prop) : Prop :=
  ∀ {T : Type} (enc : TypeId × Value → T) (W : World) (fuel : Nat) (cs : List Value) (x : DataW T × List MemPlace), DataW.trod enc P W 0 (fun _ => true) true fuel t cs = some x →
    (x.1.weights P t).all (· ≤ reachBytes) = true → cs.length = z ∧ ∃ ps, R ps ∧ ps.length = z ∧ ∀ (k : Nat) p, ps[k]? = some p → ∃ v, cs[k]? = some v ∧ PR (g0 W).ro p v

variable {P : Program}

theorem Cd.mono {t : TypeId} {z : Nat} {R R' : List PV → Prop} (hR : ∀ ps, R ps → R' ps) (h : Cd P t z R) : Cd P t z R' := fun enc W fuel cs x hx hw => by
  obtain ⟨h1, ps, h2, h3, h4⟩ := h enc W fuel cs x hx hw
  exact ⟨h1, ps, hR _ h2, h3, h4⟩

def ArgsR (g : Gh) (n : Nat) : List AV → List Value → Prop
  | [], [] => True
  | a :: r, v :: s => VR g n a v ∧ ArgsR g n r s
  | _, _ => False

theorem ArgsR.get {g : Gh} {n : Nat} : ∀ {as : List AV} {vs : List Value}, ArgsR g n as vs → vs.length = as.length ∧ ∀ (i : Nat) c, as[i]? = some c → VR g n c (vs.getD i undef)
  | [], [], _ => ⟨rfl, fun i c h => by simp at h⟩
  | a :: r, v :: s, h => by
    obtain ⟨h1, h2⟩ := ArgsR.get h.2
    refine ⟨by simp [h1], fun i c hc => ?_⟩
    cases i with
    | zero => simp at hc; subst hc; exact h.1
    | succ i => simp only [List.getElem?_cons_succ] at hc; simpa using h2 i c hc
  | [], _ :: _, h => h.elim
  | _ :: _, [], h => h.elim

theorem ACalls.law {f : FuncId} {args : List AV} {Q : Mem → Prop} (h : ACalls P f args [] fun r H' => r = .sc (.bool true) ∧ Q H') {W : World} {vals : List Value} (hv : ArgsR (g0 W) 0 args vals) :
    Calls P f vals.toArray W fun e W' => e = .returned (.bool true) ∧ Below W.heap.size W W' :=
  (h.mono fun _ _ q => q.1).below (by simpa using hv.get.1) fun i c hc => by simpa [List.getD_eq_getElem?_getD, Array.getD_eq_getD_getElem?] using hv.get.2 i c hc

end Go.Proofs.Yteclchefihcjkaa.Am
