/- Steps of a walk by values. -/
import Derived.Test.YteclchefihcjkaaM11
namespace Go.Proofs.Yteclchefihcjkaa.Am
open Go

section
variable {P : Program} {N n0 : Nat} {hint : Hints} {ops : Array Oper} {rest : List Oper} {o : Oper} {fr : Frm} {H : Mem} {K : Frm → Mem → Prop} {Q : Exit → Frm → Mem → Prop}

theorem thenQ_n {K : Frm → Mem → Prop} (h : K fr H) : thenQ K Q .normal fr H := h
theorem thenQ_ret {K : Frm → Mem → Prop} (h : Q .ret fr H) : thenQ K Q .ret fr H := h
theorem thenQ_exit {K : Frm → Mem → Prop} {id : Nat} (h : Q (.exit id) fr H) : thenQ K Q (.exit id) fr H := h
theorem blockQ_n {id : Nat} (h : Q .normal fr H) : blockQ id Q .normal fr H := h
theorem blockQ_ret {id : Nat} (h : Q .ret fr H) : blockQ id Q .ret fr H := h
theorem blockQ_exit {id : Nat} (h : Q .normal fr H) : blockQ id Q (.exit id) fr H := by simp only [blockQ, if_true]; exact h
theorem blockQ_past {id id' : Nat} (hne : id' ≠ id) (h : Q (.exit id') fr H) : blockQ id Q (.exit id') fr H := by simp only [blockQ, if_neg hne]; exact h
theorem aw_true {c : Operand} {x y : Code} (hc : aev fr c = .sc (.bool true)) (h : aw P N n0 x fr H Q) : aw P N n0 (.cond c x y) fr H Q := aw_cond hc h
theorem aw_false {c : Operand} {x y : Code} (hc : aev fr c = .sc (.bool false)) (h : aw P N n0 y fr H Q) : aw P N n0 (.cond c x y) fr H Q := aw_cond hc h
theorem aw_test {c : Operand} {x y : Code} {b : Bool} (hc : aev fr c = .sc (.bool b)) (h1 : b = true → aw P N n0 x fr H Q) (h2 : b = false → aw P N n0 y fr H Q) : aw P N n0 (.cond c x y) fr H Q := by
  cases b
  · exact aw_false hc (h2 rfl)
  · exact aw_true hc (h1 rfl)

theorem resS_tmp {P : Program} {fn : Func} {t : Tmp} {fr : Frm} {H : Mem} {R : AV → Mem → Prop} (hr : fn.results = #[.tmp t]) (h : R (fr t) H) : resS P fn fr H R := fun _ w _ tmps hf _ =>
  ⟨_, results_tmp hr tmps P w, fr t, h, hf.vr t⟩

theorem resS_none {P : Program} {fn : Func} {fr : Frm} {H : Mem} {R : AV → Mem → Prop} (hr : fn.results = #[]) (h : R (.tp []) H) : resS P fn fr H R := fun _ w _ tmps _ _ =>
  ⟨_, results_none hr tmps P w, _, h, .tp _ _ rfl fun i c hc => by simp at hc⟩

end
end Go.Proofs.Yteclchefihcjkaa.Am
