/- Rows of one's own that are appended to; what is made comes back under another number; trees at the end of a call. -/
import Derived.Test.YteclchefihcjkaaM23
namespace Go.Proofs.Yteclchefihcjkaa.Am
open Go
set_option linter.unusedVariables false

section
variable {α : Type} {c : α → List PV} {z : Nat} {P : Program} {fr : Frm} {H : Mem} {dst : Option Nat} {ty : TypeId} {pos : String} {after : Array Edge} {guard : Option (Nat × Bool)}

theorem flat_part (hz : ∀ a, (c a).length = z) (l : List α) (o k : Nat) : ((((l.map c).flatten.map PV.av).drop (o * z)).take (k * z)) = (((l.drop o).take k).map c).flatten.map PV.av := by
  have hd : ((l.map c).flatten.map PV.av).drop (o * z) = (((l.drop o).map c).flatten.map PV.av) := by
    rcases Nat.le_total o l.length with ho | ho
    · have el : o * z = (((l.take o).map c).flatten.map PV.av).length := by rw [flat_len hz, List.length_take, Nat.min_eq_left ho]
      conv => lhs; rw [el]; arg 2; rw [← List.take_append_drop o l]
      rw [List.map_append, List.flatten_append, List.map_append, List.drop_left]
    · rw [List.drop_eq_nil_of_le (by rw [flat_len hz]; exact Nat.mul_le_mul_right _ ho), List.drop_eq_nil_of_le ho]; rfl
  rw [hd]
  generalize l.drop o = l
  rcases Nat.le_total k l.length with ho | ho
  · have el : k * z = (((l.take k).map c).flatten.map PV.av).length := by rw [flat_len hz, List.length_take, Nat.min_eq_left ho]
    conv => lhs; rw [el]; arg 2; rw [← List.take_append_drop k l]
    rw [List.map_append, List.flatten_append, List.map_append, List.take_left]
  · rw [List.take_of_length_le (by rw [flat_len hz]; exact Nat.mul_le_mul_right _ ho), List.take_of_length_le ho]

/-- What is appended, as cells. -/
theorem srcA_sl {l : List α} {k : Tk} {x : AV} (h : x = .sl z (l.map c) k) : srcA z x H = some (l.length, (l.map c).flatten.map PV.av) := by subst h; simp [srcA]
theorem all_cellish (hcell : ∀ a, ((c a).map PV.av).all AV.cellish = true) (l : List α) : ((l.map c).flatten.map PV.av).all AV.cellish = true := by
  rw [List.all_eq_true]
  intro v hv
  obtain ⟨p, hp, rfl⟩ := List.mem_map.1 hv
  obtain ⟨e, he, hpe⟩ := List.mem_flatten.1 hp
  obtain ⟨a, ha, rfl⟩ := List.mem_map.1 he
  exact List.all_eq_true.1 (hcell a) _ (List.mem_map.2 ⟨p, hpe, rfl⟩)

/-- Behind a row of one's own: a new one. -/
theorem o_appH {t u e : TypeId} {x y : Operand} {b id o n mc : Nat} {zz : Value} {l l2 m : List α} {H1 : Mem} (hz : ∀ a, (c a).length = z) (hcell : ∀ a, ((c a).map PV.av).all AV.cellish = true) (hx : aev fr x = .hs id (o * z) n mc z)
    (hid : H[id]? = some (.cells ((l.map c).flatten.map PV.av))) (hn : o + n ≤ l.length) (hy : srcA z (aev fr y) H = some (l2.length, (l2.map c).flatten.map PV.av))
    (hu : P.underlying t = some (.slice e)) (hti : tinf P e = some (z, b, some zz)) (hzc : (zeroCs zz).length = z) (hss : sliceStr P u = true) (happ : app b ((l.drop o).take n) l2 = some m) (hM : H1 = H.set id .dead ++ [.cells ((m.map c).flatten.map PV.av)]) :
    OpS P ⟨dst, .call ⟨.builtin .append, #[x, y], #[t, u]⟩, ty, pos, after, guard⟩ fr H (Det (.hs H.length 0 m.length m.length z) H1) := opS_appendH (by
  obtain ⟨h1, h2, rfl⟩ := app_some happ
  have hl : ((l.drop o).take n).length = n := by rw [List.length_take, List.length_drop]; omega
  rw [hl] at h1 h2
  simp only [aAppendH, hss, hu, hti, hy, hx, hid, true_and]
  refine ⟨hzc, all_cellish hcell l2, h1, h2, by rw [flat_len hz, ← Nat.add_mul]; exact Nat.mul_le_mul_right _ hn, ?_⟩
  rw [flat_part hz, ← List.map_append, ← List.flatten_append, ← List.map_append, hM, List.length_append, hl]
  exact ⟨.refl _, rfl⟩)

end

/-- Cells, told with less. -/
theorem RebM.mem {H : Mem} {id : Nat} {cs cs' : List AV} (hid : H[id]? = some (.cells cs)) (hl : ALe cs cs') : RebM H (H.set id (.cells cs')) := ⟨by simp, fun g w hm => ⟨g, hm.le hid hl, .refl _ _ _⟩⟩

theorem OpS.post {P : Program} {o : Oper} {fr : Frm} {H H1 H2 : Mem} {r : AV} (h : OpS P o fr H (Det r H1)) (rb : RebM H1 H2) : OpS P o fr H (Det r H2) := fun g w ev h1 h2 =>
  Ls.mono (fun v w' s => by
    obtain ⟨r', H', g', ⟨k1, k2⟩, hv, hm, he, hn⟩ := s
    subst k2
    obtain ⟨g1, m1, e1⟩ := rb.2 g' w' hm
    exact ⟨r', _, g1, ⟨k1, rfl⟩, hv.mono e1.gle rb.1, m1, he.trans (e1.less hn) (Nat.le_refl _), Nat.le_trans hn rb.1⟩) (h g w ev h1 h2)

theorem ALe.app : ∀ {a a' b b' : List AV}, ALe a a' → ALe b b' → ALe (a ++ b) (a' ++ b')
  | [], [], _, _, _, h => h
  | _ :: _, _ :: _, _, _, h, h' => ⟨h.1, ALe.app h.2 h'⟩
  | [], _ :: _, _, _, h, _ => h.elim
  | _ :: _, [], _, _, h, _ => h.elim
section
variable {α : Type} {c : α → List PV} {z : Nat} {P : Program} {fr : Frm} {H : Mem} {dst : Option Nat} {ty : TypeId} {pos : String} {after : Array Edge} {guard : Option (Nat × Bool)}
/-- Nil, as a row of one's own that is empty. -/
theorem o_nilOwn {o : Oper} {H1 : Mem} (h : OpS P o fr H (Det (.sc (.slice none 0 0)) H)) (hM : H1 = H ++ [.cells []]) : OpS P o fr H (Det (.hs H.length 0 0 0 z) H1) := fun g w ev h1 h2 =>
  Ls.mono (fun v w' s => by
    obtain ⟨r', H', g', ⟨k1, k2⟩, hv, hm, he, hn⟩ := s
    subst k2
    have hv2 := VR_sc (k1 _ _ _ hv)
    subst hv2
    obtain ⟨m1, m2⟩ := hm.push_none
    exact ⟨_, _, _, ⟨.refl _, hM.symm⟩, .hn H'.length 0 z none (by simp), m1, he.trans m2 (Nat.le_refl _), by simp⟩) (h g w ev h1 h2)
end

/-! ## at the end of a call -/

theorem tok_neT {M : Mem} {i j : Nat} {cs : List Tr} (h : M[i]? = some (.tr cs)) (h2 : M[j]? = some .tok) : i ≠ j := fun e => by rw [e, h2] at h; cases h
theorem tok_neM {M : Mem} {i j : Nat} {es : List (Value × AV)} (h : M[i]? = some (.map es)) (h2 : M[j]? = some .tok) : i ≠ j := fun e => by rw [e, h2] at h; cases h

/-- What was made comes back by a pointer, under the number behind what was. -/
theorem Reb.newM {N : Nat} {fr : Frm} {H M : Mem} {e t : Nat} {x : Ent} (hb : MBd H) (hp : H <+: M) (hk : M[e]? = some x) (hlo : H.length ≤ e) (ht : fr t = .pt e 0) (hx : RnE (tau H.length [e]) (H ++ [x]).length x x) :
    Reb N H.length fr (Frm.of [(t, .pt H.length 0)]) M (H ++ [x]) := by
  obtain ⟨tl, rfl⟩ := hp
  refine Reb.keep [e] (Nat.le_refl _) hb rfl (by simp) (fun r h => by simp at h; omega) (fun j r e' h h' => ?_) (Rn.of (l := [(t, .pt H.length 0)]) fun p hp => ?_)
  · cases j with
    | zero => simp at h h'; subst h h'; exact ⟨_, hk, hx⟩
    | succ j => simp at h
  · simp at hp; subst hp
    rw [ht]
    have := Rn.pt (τ := tau H.length [e]) (m := (H ++ [x]).length) H.length 0 (by simp)
    rw [tau_hi] at this
    exact this
theorem Rn.clo1 {τ : Nat → Nat} {m : Nat} {a : AV} (h : a.clo1 = true) : Rn τ m a a := by
  unfold AV.clo1 at h
  split at h
  · exact .any _
  · exact .sc _
  · exact .no _ _ _
  · exact .ex _ _
  · exact .ep _
  · cases h
theorem RnE.tr1 {τ : Nat → Nat} {m : Nat} {cs : List Tr} (h : ∀ c ∈ cs, c.Clo) : RnE τ m (.tr cs) (.tr cs) := .tr _ fun i c hc => (h c (List.mem_of_getElem? hc)).mono fun _ ha => .clo1 ha

end Go.Proofs.Yteclchefihcjkaa.Am
