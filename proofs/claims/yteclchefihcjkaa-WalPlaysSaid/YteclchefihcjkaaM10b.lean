/- Operations: is a slice nil; what a result's cells hold. -/
import Derived.Test.YteclchefihcjkaaM10
namespace Go.Proofs.Yteclchefihcjkaa.Am
open Go

section
variable {P : Program} {fr : Frm} {H : Mem} {K : AV → Mem → Prop} {dst : Option Nat} {ty : TypeId} {pos : String} {after : Array Edge} {guard : Option (Nat × Bool)}

/-- Is a slice nil of which only the elements are known? -/
def aNil (P : Program) (op : BinOp) (t : TypeId) (es : List (List PV)) (K : Bool → Prop) : Prop :=
  match P.underlying t, op with
  | some (.slice _), .eql => ∀ b : Bool, (b = true → es = []) → K b
  | some (.slice _), .neq => ∀ b : Bool, (b = true → es = []) → K (!b)
  | _, _ => False

theorem opS_isNil {op : BinOp} {t t' : TypeId} {x y : Operand} {z : Nat} {es : List (List PV)} {k : Tk} (hx : aev fr x = .sl z es k) (hy : aev fr y = .sc (.slice none 0 0)) (h : aNil P op t es fun b => K (.sc (.bool b)) H) :
    OpS P ⟨dst, .binOp op t x y t', ty, pos, after, guard⟩ fr H K := fun g w ev hop hm => by
  have h1 := hop x (by simp [Op.operands])
  have h2 := hop y (by simp [Op.operands])
  rw [hx] at h1; rw [hy] at h2
  have e2 := VR_sc h2
  obtain ⟨a, l, c, e1, hn⟩ : ∃ a l c, ev x = .slice a l c ∧ (a.isNone = true → es = []) := by
    generalize ev x = u at h1
    cases h1 with
    | nil z k hk => exact ⟨none, 0, 0, rfl, fun _ => rfl⟩
    | sl z es k a cap f => exact ⟨some a, _, _, rfl, fun h => by cases h⟩
  unfold aNil at h
  split at h
  · rename_i e ht
    have heq := run_eq (w := w) (eq_slice (P := P) ht 9999 (a := a) (a' := none) (l := l) (c := c) (l' := 0) (c' := 0) (b := a.isNone) (by cases a <;> simp) w) rfl rfl
    have hg : (eqGuard .eql t x y (ev x) (ev y)).run P w = .ok () w := by rw [e1, e2]; simp [go_sem]
    have : (execOp ev ⟨dst, .binOp .eql t x y t', ty, pos, after, guard⟩).run P w = .ok (.value (.bool a.isNone)) w := by
      simp only [execOp, Sem.run_bind, hg, Result.andThen_ok]
      rw [e1, e2, heq.1]
      simp
    rw [this]
    exact sr_here hm (.sc _) (h _ hn)
  · rename_i e ht
    have heq := run_eq (w := w) (eq_slice (P := P) ht 9999 (a := a) (a' := none) (l := l) (c := c) (l' := 0) (c' := 0) (b := a.isNone) (by cases a <;> simp) w) rfl rfl
    have hg : (eqGuard .neq t x y (ev x) (ev y)).run P w = .ok () w := by rw [e1, e2]; simp [go_sem]
    have : (execOp ev ⟨dst, .binOp .neq t x y t', ty, pos, after, guard⟩).run P w = .ok (.value (.bool !a.isNone)) w := by
      simp only [execOp, Sem.run_bind, hg, Result.andThen_ok]
      rw [e1, e2, heq.2]
      simp
    rw [this]
    exact sr_here hm (.sc _) (h _ hn)
  · exact h.elim

end

/-- What the results' variables hold: temporaries, or cells. -/
def aRess (P : Program) (fr : Frm) (H : Mem) : List ResultVar → List AV → Prop
  | [], [] => True
  | .tmp t :: rs, r :: as => fr t = r ∧ aRess P fr H rs as
  | .cell p ty :: rs, r :: as => aLoad P ty (fr p) H (fun r' _ => r' = r) ∧ aRess P fr H rs as
  | _, _ => False

theorem aRess_run {P : Program} {N : Nat} {fr : Frm} {H : Mem} {g : Gh} {w : World} {tmps : Array Value} (hf : FR g H.length N fr tmps) (hm : MR g H w) (f : ResultVar → Sem Value) (hft : ∀ u, f (.tmp u) = pure (tmps.getD u undef))
    (hfc : ∀ a t, f (.cell a t) = (do loadVar t (← asAddr (tmps.getD a undef)))) : ∀ {rs : List ResultVar} {as : List AV}, aRess P fr H rs as →
    ∃ vs : List Value, (rs.mapM f).run P w = .ok vs w ∧ vs.length = as.length ∧ ∀ (i : Nat) c, as[i]? = some c → ∃ v, vs[i]? = some v ∧ VR g H.length c v
  | [], [], _ => ⟨[], by simp, rfl, fun i c h => by simp at h⟩
  | .tmp t :: rs, r :: as, h => by
    obtain ⟨h1, h2⟩ := h
    obtain ⟨vs, e1, e2, e3⟩ := aRess_run hf hm f hft hfc h2
    refine ⟨tmps.getD t undef :: vs, by simp [List.mapM_cons, hft, e1], by simp [e2], fun i c hi => ?_⟩
    cases i with
    | zero => simp at hi; subst hi; exact ⟨_, rfl, h1 ▸ hf.vr t⟩
    | succ i => simp only [List.getElem?_cons_succ] at hi ⊢; exact e3 i c hi
  | .cell p ty :: rs, r :: as, h => by
    obtain ⟨h1, h2⟩ := h
    obtain ⟨vs, e1, e2, e3⟩ := aRess_run hf hm f hft hfc h2
    obtain ⟨ad, e, u, hr, r', hk, hv⟩ := loadVar_sound hm (hf.vr p) h1
    subst hk
    refine ⟨u :: vs, ?_, by simp [e2], fun i c hi => ?_⟩
    · rw [List.mapM_cons, hfc, e]
      simp [asAddr, hr, e1]
    · cases i with
      | zero => simp at hi; subst hi; exact ⟨_, rfl, hv⟩
      | succ i => simp only [List.getElem?_cons_succ] at hi ⊢; exact e3 i c hi
  | [], _ :: _, h => h.elim
  | .tmp _ :: _, [], h => h.elim
  | .cell _ _ :: _, [], h => h.elim

def resF (tmps : Array Value) : ResultVar → Sem Value
  | .tmp t => pure (tmps.getD t undef)
  | .cell a t => do loadVar t (← asAddr (tmps.getD a undef))
theorem results_eq (fn : Func) (tmps : Array Value) : results fn tmps = (do let vs ← fn.results.mapM (resF tmps); pure (if h : vs.size = 1 then vs[0] else .tuple vs)) := by
  exact congrArg (fun f : ResultVar → Sem Value => (do let vs ← fn.results.mapM f; pure (if h : vs.size = 1 then vs[0] else Value.tuple vs) : Sem Value)) (funext fun x => by cases x <;> rfl)

theorem resS_list {P : Program} {fn : Func} {rs : List ResultVar} {as : List AV} {fr : Frm} {H : Mem} {R : AV → Mem → Prop} (hr : fn.results = rs.toArray) (hl : as.length ≠ 1) (ha : aRess P fr H rs as) (h : R (.tp as) H) : resS P fn fr H R := fun g w N tmps hf hm => by
  obtain ⟨vs, e1, e2, e3⟩ := aRess_run hf hm (resF tmps) (fun _ => rfl) (fun _ _ => rfl) ha
  refine ⟨.tuple vs.toArray, ?_, _, h, .tp as vs.toArray (by simp [e2]) fun i c hc => ?_⟩
  · rw [results_eq, hr, List.mapM_toArray]
    simp only [Sem.run_bind, Sem.run_map]
    rw [e1]
    simp [e2, hl]
  · obtain ⟨v, v1, v2⟩ := e3 i c hc
    simpa [Array.getD_eq_getD_getElem?, v1] using v2

end Go.Proofs.Yteclchefihcjkaa.Am
