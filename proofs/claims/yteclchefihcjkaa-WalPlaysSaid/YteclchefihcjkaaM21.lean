/- Room ahead of its elements: what Grow does to nil. -/
import Derived.Test.YteclchefihcjkaaM19
import Derived.Test.YteclchefihcjkaaD1
import Derived.Lib.AppendZeros
namespace Go.Proofs.Yteclchefihcjkaa.Am
open Go
set_option linter.unusedVariables false

section
variable {P : Program} {fr : Frm} {H : Mem} {dst : Option Nat} {ty : TypeId} {pos : String} {after : Array Edge} {guard : Option (Nat × Bool)}

theorem b_cap {a : Array TypeId} {t : TypeId} {c : Array Bool} {v : Array Value} : builtin .cap a t c v = (do pure (.value (← Builtin.cap_ a t v))) := rfl
theorem o_capN {t e : TypeId} {x : Operand} (hu : P.underlying t = some (.slice e)) (hx : aev fr x = .sc (.slice none 0 0)) :
    OpS P ⟨dst, .call ⟨.builtin .cap, #[x], #[t]⟩, ty, pos, after, guard⟩ fr H (Det (.sc (.int .i64 0)) H) := fun g w ev hop hm => by
  have hv := hop x (by simp [Op.operands, Call.operands])
  rw [hx] at hv
  have hv := VR_sc hv
  have : (execOp ev ⟨dst, .call ⟨.builtin .cap, #[x], #[t]⟩, ty, pos, after, guard⟩).run P w = .ok (.value (.int .i64 0)) w := by
    rw [execOp_b, b_cap]
    simp [hv, Builtin.cap_, run_underlying hu, goInt]
  rw [this]
  exact sr_here hm (.sc _) ⟨.refl _, rfl⟩

/-- A new row of zeros, of which only the room is told. -/
theorem o_appZ {t u e : TypeId} {x y : Operand} {s b : Nat} {z : Value} {k kn : IntKind} {n : Int} {q : Unit} {H1 : Mem} (hu : P.underlying t = some (.slice e)) (hn : P.underlying u = some (.int kn)) (hti : tinf P e = some (s, b, some z)) (hz : (zeroCs z).length = s) (hs : 0 < s)
    (hx : aev fr x = .sc (.slice none 0 0)) (hy : aev fr y = .sc (.int k n)) (h0 : decide (n > 0) = true) (hq : mkz b n = some q) (hM : H1 = H ++ [.cells []]) :
    OpS P ⟨dst, .call ⟨.builtin .append, #[x, y], #[t, u]⟩, ty, pos, after, guard⟩ fr H (Det (.hs H.length 0 n.toNat n.toNat s) H1) := fun g w ev hop hm => by
  have hv := hop x (by simp [Op.operands, Call.operands])
  have hw := hop y (by simp [Op.operands, Call.operands])
  rw [hx] at hv
  rw [hy] at hw
  have hv := VR_sc hv
  have hw := VR_sc hw
  obtain ⟨i, hi, i1, i2, i3⟩ := tinf_info hti
  obtain ⟨q0, q1, q2⟩ := mkz_some hq
  have h0 : n > 0 := by simpa using h0
  have en : n = (n.toNat : Int) := by omega
  have hzs : z.cells.size = s := by rw [← hz]; simp [zeroCs]
  have hr := Lib.run_append_nil_zeros (P := P) w t u ty e i z k kn hu hn hi i3 n.toNat (by omega) (by omega) (by omega) (by rw [i2]; omega)
  have hcap : n.toNat ≤ grownCap w n.toNat 0 e := by unfold grownCap Question.cut; exact Nat.le_add_right _ _
  have : (execOp ev ⟨dst, .call ⟨.builtin .append, #[x, y], #[t, u]⟩, ty, pos, after, guard⟩).run P w = .ok (.value (.slice (some ⟨w.heap.size, 0, none⟩) n.toNat (grownCap w n.toNat 0 e)))
      (w.drew.alloc (.cells (Builtin.zeroCells z.cells n.toNat ++ Builtin.zeroCells z.cells (grownCap w n.toNat 0 e - n.toNat)) e)) := by
    rw [execOp_b, b_append]
    simp only [List.map_toArray, List.map_cons, List.map_nil, Sem.run_bind, hv, hw]
    rw [← en] at hr
    rw [hr]
    rfl
  rw [this]
  have hp : Push w (w.drew.alloc (.cells (Builtin.zeroCells z.cells n.toNat ++ Builtin.zeroCells z.cells (grownCap w n.toNat 0 e - n.toNat)) e)) (Builtin.zeroCells z.cells n.toNat ++ Builtin.zeroCells z.cells (grownCap w n.toNat 0 e - n.toNat)) e (0, 0) := ⟨rfl, rfl, rfl, rfl⟩
  refine new_hs (z := s) hm hp (fun o _ => by simp) (acs := []) (Nat.zero_le _) (fun i a h => by simp at h) hcap ?_ ⟨.refl _, hM.symm⟩
  rw [Array.size_append, size_zeroCells, size_zeroCells, hzs, ← Nat.add_mul]
  exact Nat.le_of_eq (by congr 1; omega)

theorem o_sliceH0 {t e : TypeId} {x y : Operand} {s b id n m : Nat} {z : Option Value} {k : IntKind} (hu : P.underlying t = some (.slice e)) (hti : tinf P e = some (s, b, z)) (hx : aev fr x = .hs id 0 n m s) (hy : aev fr y = .sc (.int k 0)) (hn : 0 < m) :
    OpS P ⟨dst, .slice t x none (some y) none, ty, pos, after, guard⟩ fr H (Det (.hs id 0 0 m s) H) := by
  refine opS_slice (l := none) (h := some (k, 0)) (m := none) rfl (by simp only [bnd, hy]) rfl ?_
  refine ⟨fun h => (by cases h), ?_⟩
  simp only [hu, hti, hx]
  refine ⟨trivial, Int.le_refl _, Int.le_refl _, by simp [bd0], Int.le_refl _, ?_⟩
  simp only [bd0]
  exact ⟨by simpa using AVLe.refl _, rfl⟩
end

/-- Room of one's own, behind nothing. -/
theorem Reb.frz0 {N n0 : Nat} {fr : Frm} {H : Mem} {id mc t z : Nat} {cs : List AV} (hid : H[id]? = some (.cells cs)) (ht : fr t = .hs id 0 0 mc z) : Reb N n0 fr (Frm.of [(t, .sl z [] (.tk H.length))]) H (H.set id .dead ++ [.tok]) := fun g w tmps hn0 hf hm => by
  have hlt := lt_of_get hid
  have hlen : (H.set id Ent.dead).length = H.length := by simp
  have hv := hf.vr t
  rw [ht] at hv
  generalize hu : tmps.getD t undef = u at hv
  have slot : ∀ (g' : Gh) (m : Nat), VR g' m (.sl z [] (.tk H.length)) u → FR g' m N (Frm.of [(t, .sl z [] (.tk H.length))]) tmps := fun g' m h => ⟨hf.size, fun k => by
    by_cases e : k = t
    · subst e; simp only [Frm.of, if_true]; rw [hu]; exact h
    · simp only [Frm.of, if_neg e]; exact .any _⟩
  cases hv with
  | hs _ _ _ _ _ cap hidl hll hmc hcap =>
    obtain ⟨h1, h2, h3, h4, h5⟩ := hm.owned hid (.inr (by omega))
    have hm1 := hm.kill id
    obtain ⟨cc, el, frz, b1, b2, b3⟩ := h2
    obtain ⟨m1, m2⟩ := hm1.retok (id := id) (b := (g.mu id).b) (o := (g.mu id).o) (l := (g.mu id).o + cap * z) (by rw [List.getElem?_set_self hlt]) h1 ⟨cc, el, frz, b1, by omega, fun o ho => b3 o (by omega)⟩ (fun o v hro => by
      rw [h4] at hro; cases hro)
    rw [hlen] at m1 m2
    refine ⟨_, slot _ _ ?_, m1, ⟨⟨m2.gle.ro, fun i hi => m2.gle.mu i (by omega)⟩, fun b hb ho => m2.un b hb ho, m2.size, m2.os, m2.tape, m2.output⟩, by simp; omega⟩
    refine VR.sl z [] _ ⟨(g.mu id).b, (g.mu id).o + 0, Option.none⟩ cap (fun _ => undef) (.inr rfl) (Nat.zero_le _) (fun e he => by cases he) (fun k p hk => by simp at hk) ⟨by simp, .inr ?_⟩
    simp [Gh.addE]
  | hn _ _ _ a hidl =>
    obtain ⟨m1, m2⟩ := (hm.kill id).push_void
    rw [hlen] at m1 m2
    refine ⟨_, slot _ _ ?_, m1, ⟨⟨m2.gle.ro, fun i hi => m2.gle.mu i (by omega)⟩, m2.un, m2.size, m2.os, m2.tape, m2.output⟩, by simp; omega⟩
    cases a with
    | none => exact .nil z _ fun t e => by cases e; simp
    | some a => exact VR.sl z [] _ a 0 (fun _ => undef) (.inl rfl) (Nat.le_refl _) (fun e he => by cases he) (fun k p hk => by simp at hk) ⟨by simp, .inl rfl⟩

end Go.Proofs.Yteclchefihcjkaa.Am
