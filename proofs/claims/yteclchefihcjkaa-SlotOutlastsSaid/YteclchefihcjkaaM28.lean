/- Structs of whole numbers, compared. -/
import Derived.Test.YteclchefihcjkaaM24
import Derived.Laws.StructEq
namespace Go.Proofs.Yteclchefihcjkaa.Am
open Go
set_option linter.unusedVariables false

/-- The fields are whole numbers of these kinds, one behind another. -/
def fldI (P : Program) : List Field → List IntKind → Nat → Bool
  | [], [], _ => true
  | f :: fs, k :: ks, i => f.name != "_" && (aggT P f.type == some false) && (match P.underlying f.type with | some (.int k') => decide (k' = k) | _ => false) && f.offset == i && fldI P fs ks (i + 1)
  | _, _, _ => false

theorem run_eqI {P : Program} {d : Nat} {xs ys : Array Value} (w : World) : ∀ (fs : List Field) (l : List (IntKind × Int × Int)) (i : Nat), fldI P fs (l.map (·.1)) i = true →
    (∀ j (h : j < l.length), xs[i + j]? = some (.int l[j].1 l[j].2.1) ∧ ys[i + j]? = some (.int l[j].1 l[j].2.2)) →
    (Op.eqFields (d + 1) xs ys fs).run P w = .ok (l.all fun y => y.2.1 == y.2.2) w
  | [], [], _, _, _ => by simp [Op.eqFields]
  | [], _ :: _, _, h, _ => by simp [fldI] at h
  | _ :: _, [], _, h, _ => by simp [fldI] at h
  | f :: fs, (k, a, b) :: l, i, h, hv => by
    simp only [List.map_cons, fldI, Bool.and_eq_true, beq_iff_eq, bne_iff_ne] at h
    obtain ⟨⟨⟨⟨h1, h2⟩, h3⟩, h4⟩, h5⟩ := h
    have hu : P.underlying f.type = some (.int k) := by
      split at h3
      · rename_i k' e; simp only [decide_eq_true_eq] at h3; rw [e, h3]
      · cases h3
    have v0 := hv 0 (by simp)
    simp only [Nat.add_zero, List.getElem_cons_zero] at v0
    have p1 : (part f.type xs f.offset).run P w = .ok (.int k a) w := by
      simp only [part, Sem.run_bind, run_isAgg h2, Result.andThen_ok, Bool.false_eq_true, if_false, h4, v0.1, Sem.run_pure]
    have p2 : (part f.type ys f.offset).run P w = .ok (.int k b) w := by
      simp only [part, Sem.run_bind, run_isAgg h2, Result.andThen_ok, Bool.false_eq_true, if_false, h4, v0.2, Sem.run_pure]
    have ih := run_eqI (P := P) (d := d) (xs := xs) (ys := ys) w fs l (i + 1) h5 (fun j hj => by
      have := hv (j + 1) (by simpa using hj)
      simp only [List.getElem_cons_succ] at this
      rw [show i + 1 + j = i + (j + 1) by omega]
      exact this)
    simp only [Op.eqFields, h1, ne_eq, not_false_eq_true, if_true, Sem.run_bind, p1, p2, Result.andThen_ok, run_equalIn_int _ _ _ _ _ _ _ hu, Sem.run_ite, Sem.run_pure, ih, List.all_cons]
    cases hab : (a == b) <;> simp

section
variable {P : Program} {fr : Frm} {H : Mem} {dst : Option Nat} {ty : TypeId} {pos : String} {after : Array Edge} {guard : Option (Nat × Bool)}
theorem run_struct {t : TypeId} {fs : Array Field} (ht : P.underlying t = some (.struct fs)) (hp : P.stoodInHeld t = false) {l : List (IntKind × Int × Int)} (hf : fldI P fs.toList (l.map (·.1)) 0 = true) {xs ys : Array Value}
    (hv : ∀ j (h : j < l.length), xs[j]? = some (.int l[j].1 l[j].2.1) ∧ ys[j]? = some (.int l[j].1 l[j].2.2)) (w : World) :
    (Op.equalIn 10000 t (.agg xs) (.agg ys)).run P w = .ok (l.all fun y => y.2.1 == y.2.2) w := by
  have hS : P.underlying t = some (.struct (P.fieldsOf t)) := by simp only [Program.fieldsOf, ht]
  have hS2 : P.fieldsOf t = fs := by simp only [Program.fieldsOf, ht]
  rw [show (10000 : Nat) = 9999 + 1 from rfl, run_equalIn_agg w 9999 t xs ys hS hp, hS2]
  exact run_eqI (d := 9998) w fs.toList l 0 hf (fun j h => by simpa using hv j h)

theorem ag_ints {g : Gh} {n : Nat} {l : List (IntKind × Int)} {v : Value} (h : VR g n (.ag (l.map fun y => .sc (.int y.1 y.2))) v) : ∃ xs, v = .agg xs ∧ ∀ j (h : j < l.length), xs[j]? = some (.int l[j].1 l[j].2) := by
  cases h with
  | ag cs vs hs hv =>
    refine ⟨vs, rfl, fun j hj => ?_⟩
    have hj2 : j < vs.size := by rw [hs]; simpa using hj
    have := VR_sc (hv j (.sc (.int l[j].1 l[j].2)) (by simp [List.getElem?_eq_getElem hj]))
    rw [Array.getElem?_eq_getElem hj2]
    rw [Array.getD_eq_getD_getElem?, Array.getElem?_eq_getElem hj2] at this
    simpa using this

/-- Structs of whole numbers: are they alike? -/
theorem o_eqSt {op : BinOp} {t t' : TypeId} {x y : Operand} {fs : Array Field} {b : Bool} {v : Value} (l : List (IntKind × Int × Int)) (ht : P.underlying t = some (.struct fs)) (hp : P.stoodInHeld t = false) (hm : P.eqGuardType P.depth t = false)
    (hf : fldI P fs.toList (l.map (·.1)) 0 = true) (hx : aev fr x = .ag (l.map fun y => .sc (.int y.1 y.2.1))) (hy : aev fr y = .ag (l.map fun y => .sc (.int y.1 y.2.2))) (hb : b = l.all fun y => y.2.1 == y.2.2)
    (hv : (match op with | .eql => some (Value.bool b) | .neq => some (.bool (!b)) | _ => none) = some v) :
    OpS P ⟨dst, .binOp op t x y t', ty, pos, after, guard⟩ fr H (Det (.sc v) H) := fun g w ev hop hmr => by
  have hx' := hop x (by simp [Op.operands])
  have hy' := hop y (by simp [Op.operands])
  rw [hx] at hx'
  rw [hy] at hy'
  obtain ⟨xs, ex, hxs⟩ := ag_ints (l := l.map fun y => (y.1, y.2.1)) (by rw [List.map_map]; exact hx')
  obtain ⟨ys, ey, hys⟩ := ag_ints (l := l.map fun y => (y.1, y.2.2)) (by rw [List.map_map]; exact hy')
  have he := run_struct (P := P) ht hp (l := l) hf (xs := xs) (ys := ys) (fun j h => by
    have h1 := hxs j (by simpa using h)
    have h2 := hys j (by simpa using h)
    simp only [List.getElem_map] at h1 h2
    exact ⟨h1, h2⟩) w
  have hgd : (eqGuard op t x y (ev x) (ev y)).run P w = .ok () w := by rw [ex, ey]; exact run_eqGuard_agg w op t x y xs ys hm
  have hbin : (binOp op t (ev x) (ev y)).run P w = .ok v w := by
    rw [ex, ey]
    subst hb
    cases op <;> simp only at hv <;> cases hv
    · rw [run_eql_struct, he]; rfl
    · rw [run_neq_struct, he]; rfl
  have : (execOp ev ⟨dst, .binOp op t x y t', ty, pos, after, guard⟩).run P w = .ok (.value v) w := by
    simp only [execOp, Sem.run_bind, hgd, hbin, Result.andThen_ok, Sem.run_pure]
  rw [this]
  exact sr_here hmr (.sc _) ⟨.refl _, rfl⟩
end
end Go.Proofs.Yteclchefihcjkaa.Am
