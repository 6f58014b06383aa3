/- Rows of one's own that are appended to; what is made comes back under another number; trees at the end of a call. -/
import Derived.Test.YteclchefihcjkaaM23
namespace Go.Proofs.Yteclchefihcjkaa.Am
open Go
set_option linter.unusedVariables false

section
variable {α : Type} {c : α → List PV} {z : Nat} {P : Program} {fr : Frm} {H : Mem} {dst : Option Nat} {ty : TypeId} {pos : String} {after : Array Edge} {guard : Option (Nat × Bool)}

end

/-- Cells, told with less. -/
theorem RebM.mem {H : Mem} {id : Nat} {cs cs' : List AV} (hid : H[id]? = some (.cells cs)) (hl : ALe cs cs') : RebM H (H.set id (.cells cs')) := ⟨by simp, fun g w hm => ⟨g, hm.le hid hl, .refl _ _ _⟩⟩

theorem OpS.post {P : Program} {o : Oper} {fr : Frm} {H H1 H2 : Mem} {r : AV} (h : OpS P o fr H (Det r H1)) (rb : RebM H1 H2) : OpS P o fr H (Det r H2) := fun g w ev h1 h2 =>
  Ls.mono (fun v w' s => by
    obtain ⟨r', H', g', ⟨k1, k2⟩, hv, hm, he, hn⟩ := s
    subst k2
    obtain ⟨g1, m1, e1⟩ := rb.2 g' w' hm
    exact ⟨r', _, g1, ⟨k1, rfl⟩, hv.mono e1.gle rb.1, m1, he.trans (e1.less hn) (Nat.le_refl _), Nat.le_trans hn rb.1⟩) (h g w ev h1 h2)

theorem ALe.app : ∀ {a a' b b' : List AV}, ALe a a' → ALe b b' → ALe (a ++ b) (a' ++ b')
  | [], [], _, _, _, h => h
  | _ :: _, _ :: _, _, _, h, h' => ⟨h.1, ALe.app h.2 h'⟩
  | [], _ :: _, _, _, h, _ => h.elim
  | _ :: _, [], _, _, h, _ => h.elim
theorem ALe.zeros {zc : List AV} {cs : List PV} (h : ALe zc (cs.map PV.av)) : ∀ n, ALe (azeros zc n) ((List.replicate n cs).flatten.map PV.av)
  | 0 => trivial
  | n + 1 => by
    rw [azeros, List.replicate_succ, List.flatten_cons, List.map_append]
    exact h.app (ALe.zeros h n)

section
variable {α : Type} {c : α → List PV} {z : Nat} {P : Program} {fr : Frm} {H : Mem} {dst : Option Nat} {ty : TypeId} {pos : String} {after : Array Edge} {guard : Option (Nat × Bool)}
end

/-! ## at the end of a call -/

theorem tok_neT {M : Mem} {i j : Nat} {cs : List Tr} (h : M[i]? = some (.tr cs)) (h2 : M[j]? = some .tok) : i ≠ j := fun e => by rw [e, h2] at h; cases h
theorem tok_neM {M : Mem} {i j : Nat} {es : List (Value × AV)} (h : M[i]? = some (.map es)) (h2 : M[j]? = some .tok) : i ≠ j := fun e => by rw [e, h2] at h; cases h

/-- What was made comes back by a pointer, under the number behind what was. -/
theorem Reb.newM {N : Nat} {fr : Frm} {H M : Mem} {e t : Nat} {x : Ent} (hb : MBd H) (hp : H <+: M) (hk : M[e]? = some x) (hlo : H.length ≤ e) (ht : fr t = .pt e 0) (hx : RnE (tau H.length [e]) (H ++ [x]).length x x) :
    Reb N H.length fr (Frm.of [(t, .pt H.length 0)]) M (H ++ [x]) := by
  obtain ⟨tl, rfl⟩ := hp
  refine Reb.keep [e] (Nat.le_refl _) hb rfl (by simp) (fun r h => by simp at h; omega) (fun j r e' h h' => ?_) (Rn.of (l := [(t, .pt H.length 0)]) fun p hp => ?_)
  · cases j with
    | zero => simp at h h'; subst h h'; exact ⟨_, hk, hx⟩
    | succ j => simp at h
  · simp at hp; subst hp
    rw [ht]
    have := Rn.pt (τ := tau H.length [e]) (m := (H ++ [x]).length) H.length 0 (by simp)
    rw [tau_hi] at this
    exact this
theorem Rn.clo1 {τ : Nat → Nat} {m : Nat} {a : AV} (h : a.clo1 = true) : Rn τ m a a := by
  unfold AV.clo1 at h
  split at h
  · exact .any _
  · exact .sc _
  · exact .no _ _ _
  · exact .ex _ _
  · exact .ep _
  · cases h
theorem RnE.tr1 {τ : Nat → Nat} {m : Nat} {cs : List Tr} (h : ∀ c ∈ cs, c.Clo) : RnE τ m (.tr cs) (.tr cs) := .tr _ fun i c hc => (h c (List.mem_of_getElem? hc)).mono fun _ ha => .clo1 ha

end Go.Proofs.Yteclchefihcjkaa.Am
