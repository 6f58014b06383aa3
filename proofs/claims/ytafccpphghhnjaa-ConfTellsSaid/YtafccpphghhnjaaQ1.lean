/- Part 1 of the proof: values, memory, walks or the plain law. -/
import Derived.Test.YtafccpphghhnjaaQ0
import Derived.Lib.AppendZeros
import Derived.Maps.RangeRun
import Derived.Maps.Range
import Derived.Laws.StructEq
import Derived.Test.YtafccpphghhnjaaProg
import Derived.KernelRfl
import Derived.RangeFuncNested
import Derived.RangeFuncBound
import Derived.RangeFuncCalls
import Derived.RangeFuncLeaves
import Derived.Sort.Grow
import Derived.Shelf.Sort.Plain
import Derived.Shelf.Slices.In.SortNone
import Derived.Ground.Names2Prog
namespace Go.Proofs.Ytafccpphghhnjaa.Am
open Go
set_option linter.unusedVariables false
def Det (r : AV) (H1 : Mem) : AV → Mem → Prop := fun r' H' => AVLe r' r ∧ H' = H1
theorem OpS.det {P : Program} {o : Oper} {fr : Frm} {H H1 : Mem} {r : AV} (h : OpS P o fr H (Det r H1)) : OpS P o fr H fun r' H' => r' = r ∧ H' = H1 := fun g w ev h1 h2 =>
 Ls.mono (fun v w' s => s.mono' fun r' H' g' v' ⟨k1, k2⟩ hv => ⟨r, ⟨rfl, k2⟩, k1 _ _ _ hv⟩) (h g w ev h1 h2)
section
variable {P : Program} {ops : Array Oper} {cs : List Nat} {rest : List Oper} {o : Oper} {fr : Frm} {H : Mem} {K : Frm → Mem → Prop}
theorem OpsS_nil (h : K fr H) : OpsS P ops [] fr H K := h
theorem OpsS_det (r : AV) (H1 : Mem) (hg : agd ops fr o = some true) (h : OpS P o fr H (Det r H1)) (h2 : OpsS P ops rest (fr.put o.dst r) H1 K) : OpsS P ops (o :: rest) fr H K := by
 simp only [OpsS, hg]
 exact h.det.mono fun r' H' ⟨e1, e2⟩ => by subst e1 e2; exact h2
theorem OpsS_skip (hg : agd ops fr o = some false) (h : OpsS P ops rest (fr.put o.dst undefA) H K) : OpsS P ops (o :: rest) fr H K := by
 simp only [OpsS, hg]
 exact h
theorem OpsS_test {b : Bool} (hg : agd ops fr o = some true) (h : OpS P o fr H (Det (.sc (.bool b)) H)) (h1 : b = true → OpsS P ops rest (fr.put o.dst (.sc (.bool true))) H K)
  (h2 : b = false → OpsS P ops rest (fr.put o.dst (.sc (.bool false))) H K) : OpsS P ops (o :: rest) fr H K := by
 refine OpsS_det (.sc (.bool b)) H hg h ?_
 cases b
 ·exact h2 rfl
 ·exact h1 rfl
variable {B : Mem} {J : Mem → Prop} {T : Bool}
theorem DRun_det0 (r : AV) (hg : agd ops fr o = some true) (h : ∀ H0 : Mem, OpS P o fr H0 (Det r H0)) (h2 : DRun P J T ops cs rest (fr.put o.dst r) B H K) : DRun P J T ops (0 :: cs) (o :: rest) fr B H K :=
 ⟨r, H, ⟨fun _ => rfl, fun _ => List.prefix_refl _, .inl rfl, .inl ⟨hg, .inl ⟨rfl, fun H0 _ => (h H0).det⟩⟩⟩, h2⟩
theorem DRun_det1 (r : AV) (hg : agd ops fr o = some true) (h : ∀ H0 : Mem, B <+: H0 → OpS P o fr H0 (Det r H0)) (h2 : DRun P J T ops cs rest (fr.put o.dst r) B H K) : DRun P J T ops (1 :: cs) (o :: rest) fr B H K :=
 ⟨r, H, ⟨fun _ => rfl, fun _ => List.prefix_refl _, .inl rfl, .inl ⟨hg, .inr (.inl ⟨rfl, fun H0 hB => (h H0 hB).det⟩)⟩⟩, h2⟩
theorem DRun_skipN {c : Nat} (hc : c ≠ 2) (hg : agd ops fr o = some false) (h : DRun P J T ops cs rest (fr.put o.dst undefA) B H K) : DRun P J T ops (c :: cs) (o :: rest) fr B H K :=
 ⟨undefA, H, ⟨fun _ => rfl, fun _ => List.prefix_refl _, .inl rfl, .inr ⟨hg, rfl, rfl⟩⟩, by rw [List.headD_cons, if_neg hc]; exact h⟩
theorem DRun_test0 {b : Bool} (hg : agd ops fr o = some true) (h : ∀ H0 : Mem, OpS P o fr H0 (Det (.sc (.bool b)) H0)) (h1 : b = true → DRun P J T ops cs rest (fr.put o.dst (.sc (.bool true))) B H K)
  (h2 : b = false → DRun P J T ops cs rest (fr.put o.dst (.sc (.bool false))) B H K) : DRun P J T ops (0 :: cs) (o :: rest) fr B H K := by
 refine DRun_det0 (.sc (.bool b)) hg h ?_
 cases b
 ·exact h2 rfl
 ·exact h1 rfl
end
theorem AVLe.trans {a b c : AV} (h : AVLe a b) (h' : AVLe b c) : AVLe a c := fun g n v hv => h' g n v (h g n v hv)
theorem AVLe.any (a : AV) : AVLe a .any := fun _ _ _ _ => .any _
theorem AVLe.agg {cs cs' : List AV} (h : ALe cs cs') : AVLe (.ag cs) (.ag cs') := fun g n v hv => by
 obtain ⟨h1, h2⟩ := h.get
 cases hv with
 | ag _ vs hs hx => exact .ag cs' vs (hs.trans h1) fun i c hc => by obtain ⟨c0, e0, l0⟩ := h2 i c hc; exact l0 _ _ _ (hx i c0 e0)
theorem ALe.refl : ∀ l, ALe l l
 | [] => trivial
 | _ :: r => ⟨.refl _, ALe.refl r⟩
theorem ELe.refl : ∀ l, ELe l l
 | [] => trivial
 | _ :: r => ⟨.refl _, ELe.refl r⟩
def FlL (fr : Frm) : List (Nat × AV) → Prop
 | [] => True
 | (d, v) :: r => AVLe (fr d) v ∧ FlL fr r
theorem Reb.fl {N n0 : Nat} {fr : Frm} {H : Mem} {l : List (Nat × AV)} (h : FlL fr l) : Reb N n0 fr (Frm.of l) H H := fun g w tmps hn hf hm => by
 refine ⟨g, ⟨hf.size, fun t => ?_⟩, hm, .refl _ _ _, hn⟩
 induction l with
 | nil => exact .any _
 | cons p r ih =>
  obtain ⟨d, v⟩ := p
  by_cases e : t = d
  ·subst e
   simp only [Frm.of, if_true]
   exact h.1 _ _ _ (hf.vr t)
  ·simp only [Frm.of, if_neg e]
   exact ih h.2
def AVLt (n : Nat) (a a' : AV) : Prop := ∀ g m v, n < m → VR g m a v → VR g m a' v
theorem AVLt.of {n : Nat} {a a' : AV} (h : AVLe a a') : AVLt n a a' := fun g m v _ hv => h g m v hv
theorem AVLt.nil (n z : Nat) : AVLt n (.sc (.slice none 0 0)) (.sl z [] (.tk n)) := fun _ _ _ hn h => by cases h; exact .nil z _ fun t e => by cases e; exact hn
theorem AVLt.ex (n z : Nat) (es : List (List PV)) : AVLt n (.sl z es .ex) (.sl z es (.tk n)) := fun _ _ _ hn h => by
 cases h with
 | nil z => exact .nil z _ fun t e => by cases e; exact hn
 | sl z es k a cap f h1 h2 h3 h4 h5 => exact .sl z es _ a cap f h1 h2 h3 h4 ⟨hn, .inl h5⟩
def FtL (n : Nat) (fr : Frm) : List (Nat × AV) → Prop
 | [] => True
 | (d, v) :: r => AVLt n (fr d) v ∧ FtL n fr r
theorem Reb.void {N n0 : Nat} {fr : Frm} {H : Mem} {l : List (Nat × AV)} (h : FtL H.length fr l) : Reb N n0 fr (Frm.of l) H (H ++ [.tok]) := fun g w tmps hl hf hm => by
 obtain ⟨m1, m2⟩ := hm.push_void
 refine ⟨_, ⟨hf.size, ?_⟩, m1, ⟨⟨m2.gle.ro, fun i hi => m2.gle.mu i (by omega)⟩, m2.un, m2.size, m2.os, m2.tape, m2.output⟩, by simp; omega⟩
 intro t
 have hfr := (hf.mono m2.gle (by simp : H.length ≤ (H ++ [Ent.tok]).length)).vr t
 generalize tmps.getD t undef = u at hfr
 induction l with
 | nil => exact .any _
 | cons p r ih =>
  obtain ⟨d, v⟩ := p
  by_cases e : t = d
  ·subst e
   simp only [Frm.of, if_true]
   exact h.1 _ _ _ (by simp) hfr
  ·simp only [Frm.of, if_neg e]
   exact ih h.2
theorem MR.le {g : Gh} {H : Mem} {w : World} {id : Nat} {cs cs' : List AV} (hm : MR g H w) (hid : H[id]? = some (.cells cs)) (hl : ALe cs cs') : MR g (H.set id (.cells cs')) w := by
 obtain ⟨q1, q2⟩ := hl.get
 have hlen : (H.set id (Ent.cells cs')).length = H.length := by simp
 refine ⟨hm.ro, fun id' e he => ?_, fun b i hb => by rw [hlen]; exact hm.ow b i hb⟩
 rw [hlen]
 rcases get_set he with ⟨hne, he⟩ | ⟨rfl, rfl, _⟩
 ·exact hm.ent id' e he
 ·rcases hm.ent _ _ hid with ⟨e1, e2⟩ | ⟨h1, h2, h3, h4, h5⟩
  ·exact .inl ⟨List.eq_nil_of_length_eq_zero (by rw [← q1, e1]; rfl), e2⟩
  refine .inr ⟨h1, h2, by rw [← q1]; exact h3, h4, fun k c hc => ?_⟩
  obtain ⟨c0, e0, l0⟩ := q2 k c hc
  obtain ⟨v, hv, hvr⟩ := h5 k c0 e0
  exact ⟨v, hv, l0 _ _ _ hvr⟩
def ALt (n : Nat) : List AV → List AV → Prop
 | [], [] => True
 | a :: r, a' :: r' => AVLt n a a' ∧ ALt n r r'
 | _, _ => False
theorem ALt.get {n : Nat} : ∀ {l l' : List AV}, ALt n l l' → l'.length = l.length ∧ ∀ (i : Nat) c', l'[i]? = some c' → ∃ c, l[i]? = some c ∧ AVLt n c c'
 | [], [], _ => ⟨rfl, fun i c h => by simp at h⟩
 | a :: r, a' :: r', h => by
  obtain ⟨h1, h2⟩ := ALt.get h.2
  refine ⟨by simp [h1], fun i c hc => ?_⟩
  cases i with
  | zero => simp at hc; subst hc; exact ⟨a, rfl, h.1⟩
  | succ i => simp only [List.getElem?_cons_succ] at hc ⊢; exact h2 i c hc
 | [], _ :: _, h => h.elim
 | _ :: _, [], h => h.elim
theorem Reb.mem {N n0 : Nat} {fr : Frm} {H : Mem} {id : Nat} {cs cs' : List AV} (hid : H[id]? = some (.cells cs)) (hl : ALe cs cs') : Reb N n0 fr fr H (H.set id (.cells cs')) := fun g w tmps hn hf hm =>
 ⟨g, by rw [List.length_set]; exact hf, hm.le hid hl, .refl _ _ _, by rw [List.length_set]; exact hn⟩
section
variable {P : Program} {N n0 : Nat} {fr : Frm} {H : Mem} {Q : Exit → Frm → Mem → Prop}
theorem aw_loopD {S T G : Type} {body : Code} {b : S → Option (Ctl T S)} {n : Nat} {s0 : S} {t : T} (hl : loopN b n s0 = some t) (F : S → G → Frm) (I : S → G → Mem → Prop) (g0 : G) {H1 : Mem} (hI : I s0 g0 H1)
  (hR : Reb N n0 fr (F s0 g0) H H1)
  (step : ∀ s g M c, I s g M → b s = some c → (∀ t', c = .ret t' → t' = t) → aw P N n0 body (F s g) M (thenQ (fun fr' M' => ∃ s' g' M'', c = .go s' ∧ I s' g' M'' ∧ Reb N n0 fr' (F s' g') M' M'') Q)) :
  aw P N n0 (.loop body) fr H Q := by
 refine aw_reb hR ?_
 refine aw_loop (fun k fr' M' => ∃ s g, loopN b k s = some t ∧ fr' = F s g ∧ I s g M') (k := n) ⟨s0, g0, hl, rfl, hI⟩ ?_
 rintro k fr' M' ⟨s, g, hk, rfl, hi⟩
 cases k with
 | zero => cases hk
 | succ k =>
  simp only [loopN] at hk
  cases hb : b s with
  | none => rw [hb] at hk; cases hk
  | some c =>
   refine aw.conseq (fun e fr2 M2 q => ?_) (step s g M' c hi hb fun t' e => by rw [hb, e] at hk; simpa using hk)
   cases e with
   | normal =>
    obtain ⟨s', g', M'', rfl, i2, r2⟩ := q
    rw [hb] at hk
    exact ⟨_, _, r2, k, Nat.lt_succ_self k, s', g', hk, rfl, i2⟩
   | _ => exact ⟨_, _, .refl, q⟩
theorem aw_joinS {S G : Type} {x y : Code} (s : S) (F : S → G → Frm) (I : S → G → Mem → Prop)
  (h : aw P N n0 x fr H (thenQ (fun fr' M' => ∃ g M'', I s g M'' ∧ Reb N n0 fr' (F s g) M' M'') Q)) (h2 : ∀ g M, I s g M → aw P N n0 y (F s g) M Q) : aw P N n0 (.seq x y) fr H Q :=
 aw_seq (aw.conseq (fun e fr' H' q => by
  cases e with
  | normal =>
   obtain ⟨g, M'', i1, r1⟩ := q
   exact ⟨_, _, r1, h2 g M'' i1⟩
  | _ => exact ⟨_, _, .refl, q⟩) h)
end
section
variable {P : Program} {N n0 : Nat} {fr : Frm} {H : Mem} {Q : Exit → Frm → Mem → Prop}
theorem aw_tailD {S E G : Type} {x : Code} (c : Ctl E S) (F : S → G → Frm) (I : S → G → Mem → Prop)
  (h : aw P N n0 x fr H (thenQ (fun fr' M' => ∃ s g M'', c = .go s ∧ I s g M'' ∧ Reb N n0 fr' (F s g) M' M'') Q)) (h2 : ∀ s g M, c = .go s → I s g M → Q .normal (F s g) M) : aw P N n0 x fr H Q :=
 aw.conseq (fun e fr' H' q => by
  cases e with
  | normal =>
   obtain ⟨s, g, M'', e1, i1, r1⟩ := q
   exact ⟨_, _, r1, h2 s g M'' e1 i1⟩
  | _ => exact ⟨_, _, .refl, q⟩) h
theorem aw_tailS {S G : Type} {x : Code} (s : S) (F : S → G → Frm) (I : S → G → Mem → Prop)
  (h : aw P N n0 x fr H (thenQ (fun fr' M' => ∃ g M'', I s g M'' ∧ Reb N n0 fr' (F s g) M' M'') Q)) (h2 : ∀ g M, I s g M → Q .normal (F s g) M) : aw P N n0 x fr H Q :=
 aw.conseq (fun e fr' H' q => by
  cases e with
  | normal =>
   obtain ⟨g, M'', i1, r1⟩ := q
   exact ⟨_, _, r1, h2 g M'' i1⟩
  | _ => exact ⟨_, _, .refl, q⟩) h
end
section
variable {A M : Mem} {i j : Nat} {x y : Ent}
theorem get_app {tl : Mem} (h : M[i]? = some x) : (M ++ tl)[i]? = some x := by rw [List.getElem?_append_left (lt_of_get h)]; exact h
theorem get_new : (M ++ [x])[M.length]? = some x := by simp
theorem get_new2 {y : Ent} : (M.set i y ++ [x])[M.length]? = some x := by
 have q := get_new (M := M.set i y) (x := x)
 rw [List.length_set] at q; exact q
theorem get_self (h : M[i]? = some y) : (M.set i x)[i]? = some x := by rw [List.getElem?_set_self (lt_of_get h)]
theorem get_ne (hne : i ≠ j) (h : M[i]? = some x) : (M.set j y)[i]? = some x := by rw [List.getElem?_set_ne (Ne.symm hne)]; exact h
theorem pre_app {tl : Mem} (h : A <+: M) : A <+: M ++ tl := h.trans (List.prefix_append _ _)
theorem pre_get (h : A <+: M) (hi : A[i]? = some x) : M[i]? = some x := by
 obtain ⟨tl, rfl⟩ := h
 exact get_app hi
theorem pre_hi (h : A <+: M) (hi : A.length ≤ i) : A <+: M.set i x := by
 obtain ⟨tl, rfl⟩ := h
 rw [List.set_append_right _ _ hi]
 exact List.prefix_append _ _
theorem pre_lo (h : A <+: M) (hi : i < A.length) : A.set i x <+: M.set i x := by
 obtain ⟨tl, rfl⟩ := h
 rw [List.set_append_left _ _ hi]
 exact List.prefix_append _ _
theorem mset_same (h : M[i]? = some x) : M.set i x = M := by
 apply List.ext_getElem?
 intro k
 by_cases e : i = k
 ·subst e; rw [get_self h, h]
 ·rw [List.getElem?_set_ne e]
theorem pre_set (h : M[i]? = some x) : M.set i x <+: M := by rw [mset_same h]; exact List.prefix_refl _
theorem pre_len (h : A <+: M) : A.length ≤ M.length := h.length_le
end
def AV.clo1 : AV → Bool
 | .any | .sc _ | .sl _ _ .no | .sl _ _ .ex | .ep _ => true
 | _ => false
def AV.clo2 : AV → Bool
 | .ag cs => cs.all AV.clo1
 | a => a.clo1
def AV.clo : AV → Bool
 | .tp cs => cs.all AV.clo2
 | a => a.clo2
theorem AV.clo1_bd {n : Nat} {a : AV} (h : a.clo1 = true) : Bd n a := by
 unfold AV.clo1 at h
 split at h
 ·exact .any
 ·exact .sc _
 ·exact .sl _ _ _ fun t e => by cases e
 ·exact .sl _ _ _ fun t e => by cases e
 ·exact .ep _
 ·cases h
theorem AV.clo2_bd {n : Nat} {a : AV} (h : a.clo2 = true) : Bd n a := by
 unfold AV.clo2 at h
 split at h
 ·exact .ag _ fun i c hc => clo1_bd (List.all_eq_true.1 h c (List.mem_of_getElem? hc))
 ·exact clo1_bd h
theorem AV.clo_bd {n : Nat} {a : AV} (h : a.clo = true) : Bd n a := by
 unfold AV.clo at h
 split at h
 ·exact .tp _ fun i c hc => clo2_bd (List.all_eq_true.1 h c (List.mem_of_getElem? hc))
 ·exact clo2_bd h
theorem MBd.set {H : Mem} {p : Nat} {cs : List AV} (hH : MBd H) (hc : cs.all AV.clo1 = true) : MBd (H.set p (.cells cs)) := fun id e he => by
 rw [List.length_set]
 rcases get_set he with ⟨_, he⟩ | ⟨rfl, rfl, _⟩
 ·exact hH id e he
 ·exact fun i c hc' => AV.clo1_bd (List.all_eq_true.1 hc c (List.mem_of_getElem? hc'))
theorem ACalls.done {P : Program} {f : FuncId} {args : List AV} {H H1 : Mem} {r0 : AV} (hn : H.length ≤ H1.length) (hB : MBd H → MBd H1) (hb : Bd H1.length r0)
  (h : ACalls P f args H fun r M => AVLe r r0 ∧ H1 <+: M) : ACalls P f args H fun r M => r = r0 ∧ M = H1 := by
 refine ⟨h.1, fun g w vals hm hs hv => (h.2 g w vals hm hs hv).mono ?_⟩
 rintro e w' ⟨v, he, s⟩
 refine ⟨v, he, SR.trim (R := fun r M => r = r0 ∧ H1 <+: M) (s.mono' fun r' H' g' v' ⟨k1, k2⟩ hv' => ⟨r0, ⟨rfl, k2⟩, k1 _ _ _ hv'⟩) ?_⟩
 rintro r H' ⟨rfl, tl, rfl⟩
 exact ⟨H1, tl, rfl, hn, hB fun id e he => (hm.ent id e he).bd, hb, rfl, rfl⟩
theorem ACalls.done0 {P : Program} {f : FuncId} {args : List AV} {H : Mem} {r0 : AV} (hb : r0.clo = true)
  (h : ACalls P f args H fun r M => AVLe r r0 ∧ H <+: M) : ACalls P f args H fun r M => r = r0 ∧ M = H := ACalls.done (Nat.le_refl _) id (AV.clo_bd hb) h
end Go.Proofs.Ytafccpphghhnjaa.Am
namespace Go.Proofs.Ytafccpphghhnjaa.Am
open Go
set_option linter.unusedVariables false
section
variable {P : Program} {fr : Frm} {H : Mem} {dst : Option Nat} {ty : TypeId} {pos : String} {after : Array Edge} {guard : Option (Nat × Bool)}
theorem o_move {x : Operand} {r : AV} (h : AVLe (aev fr x) r) : OpS P ⟨dst, .move x, ty, pos, after, guard⟩ fr H (Det r H) := opS_move ⟨h, rfl⟩
theorem o_assign {x : Operand} {r : AV} (h : AVLe (aev fr x) r) : OpS P ⟨dst, .assign x, ty, pos, after, guard⟩ fr H (Det r H) := opS_assign ⟨h, rfl⟩
theorem o_pick {c x y : Operand} {b : Bool} {r : AV} (hc : aev fr c = .sc (.bool b)) (h : AVLe (if b then aev fr x else aev fr y) r) : OpS P ⟨dst, .pick c x y, ty, pos, after, guard⟩ fr H (Det r H) := opS_pick hc ⟨h, rfl⟩
theorem o_bin {op : BinOp} {t t' : TypeId} {x y : Operand} {v : Value} (hv : aBin P op t (aev fr x) (aev fr y) = some v) : OpS P ⟨dst, .binOp op t x y t', ty, pos, after, guard⟩ fr H (Det (.sc v) H) := opS_binOp hv ⟨.refl _, rfl⟩
theorem o_int {op : BinOp} {t t' : TypeId} {x y : Operand} {k : IntKind} {a b : Int} {v : Value} (hx : aev fr x = .sc (.int k a)) (hy : aev fr y = .sc (.int k b)) (ho : (match op with | .shl | .shr => false | _ => true) = true)
  (hv : intBin op k a b = some v) : OpS P ⟨dst, .binOp op t x y t', ty, pos, after, guard⟩ fr H (Det (.sc v) H) := o_bin (by
 rw [hx, hy]
 cases op <;> first | exact absurd ho (by decide) | simpa [aBin] using hv)
theorem o_rem {t t' : TypeId} {x y : Operand} {k : IntKind} {a b n : Int} (hx : aev fr x = .sc (.int k a)) (hy : aev fr y = .sc (.int k b)) (hn : remI a b = some n) :
  OpS P ⟨dst, .binOp .rem t x y t', ty, pos, after, guard⟩ fr H (Det (.sc (.int k n)) H) := o_int hx hy rfl (by
 obtain ⟨h0, rfl⟩ := remI_some hn
 simp only [intBin, if_neg h0])
theorem o_neB {t t' : TypeId} {x y : Operand} {a b : Bool} (hu : P.underlying t = some .bool) (hx : aev fr x = .sc (.bool a)) (hy : aev fr y = .sc (.bool b)) :
  OpS P ⟨dst, .binOp .neq t x y t', ty, pos, after, guard⟩ fr H (Det (.sc (.bool (a != b))) H) := o_bin (by rw [hx, hy]; simp only [aBin, aEq, hu]; rfl)
theorem o_convI {s d : TypeId} {x : Operand} {k k' : IntKind} {n : Int} {u : TypeDesc} (hs : P.underlying s = some u) (hd : P.underlying d = some (.int k)) (hx : aev fr x = .sc (.int k' n)) :
  OpS P ⟨dst, .convert s d x, ty, pos, after, guard⟩ fr H (Det (.sc (.int k (k.wrap n))) H) := opS_convert (v := .int k (k.wrap n)) (by simp only [aConv, hs, hd, hx]) ⟨.refl _, rfl⟩
theorem o_alloc {t : TypeId} {s b : Nat} {z : Value} {H1 : Mem} (ht : tinf P t = some (s, b, some z)) (hM : H1 = H ++ [.cells (zeroCs z)]) : OpS P ⟨dst, .alloc t, ty, pos, after, guard⟩ fr H (Det (.pt H.length 0) H1) := opS_alloc ht ⟨.refl _, hM.symm⟩
theorem o_box {t : TypeId} {x : Operand} {H1 : Mem} (hf : (aev fr x).flat = true) (hM : H1 = H ++ [.cells (aev fr x).cells]) : OpS P ⟨dst, .box t x, ty, pos, after, guard⟩ fr H (Det (.pt H.length 0) H1) := opS_box hf ⟨.refl _, hM.symm⟩
theorem o_extract {x : Operand} {i : Nat} {vs : List AV} {a : AV} (hx : aev fr x = .tp vs) (ha : vs[i]? = some a) : OpS P ⟨dst, .extract x i, ty, pos, after, guard⟩ fr H (Det a H) := opS_extract hx ha ⟨.refl _, rfl⟩
theorem o_makeFunc {f : Fn} {first caps : Array Operand} {fs cs : List AV} (hf : first.toList.map (aev fr) = fs) (hc : caps.toList.map (aev fr) = cs) : OpS P ⟨dst, .makeFunc f first caps, ty, pos, after, guard⟩ fr H (Det (.fn f fs cs) H) := opS_makeFunc (by rw [hf, hc]; exact ⟨.refl _, rfl⟩)
theorem o_loadE {t : TypeId} {x : Operand} {q : Nat × Nat × Option Value} {p : PV} {ps : List PV} {r : AV} (hag : aggT P t = some false) (hti : tinf P t = some q) (hx : aev fr x = .ep (p :: ps)) (h : AVLe p.av r) :
  OpS P ⟨dst, .load t x, ty, pos, after, guard⟩ fr H (Det r H) := opS_load (by simp only [aLoad, hag, hti, hx]; exact ⟨h, rfl⟩)
theorem o_loadEA {t : TypeId} {x : Operand} {s b : Nat} {z : Option Value} {cs : List PV} {r : AV} (hag : aggT P t = some true) (hti : tinf P t = some (s, b, z)) (hx : aev fr x = .ep cs) (hl : s ≤ cs.length)
  (h : AVLe (.ag ((cs.take s).map PV.av)) r) : OpS P ⟨dst, .load t x, ty, pos, after, guard⟩ fr H (Det r H) := opS_load (by simp only [aLoad, hag, hti, hx]; exact ⟨hl, h, rfl⟩)
theorem o_loadP {t : TypeId} {x : Operand} {q : Nat × Nat × Option Value} {id off : Nat} {cs : List AV} {c r : AV} (hag : aggT P t = some false) (hti : tinf P t = some q) (hx : aev fr x = .pt id off) (hm : H[id]? = some (.cells cs))
  (hc : cs[off]? = some c) (h : AVLe c r) : OpS P ⟨dst, .load t x, ty, pos, after, guard⟩ fr H (Det r H) := opS_load (by simp only [aLoad, hag, hti, hx, hm, hc]; exact ⟨h, rfl⟩)
theorem o_store {t : TypeId} {x y : Operand} {s b : Nat} {z : Option Value} {id off : Nat} {cs cs' : List AV} {v : AV} {H1 : Mem} (hti : tinf P t = some (s, b, z)) (hx : aev fr x = .pt id off) (hy : aev fr y = v) (hm : H[id]? = some (.cells cs))
  (h0 : s ≠ 0) (hf : v.flat = true) (hs : v.cells.length = s) (hc : v.cells.all AV.cellish = true) (hl : off + s ≤ cs.length) (he : setAt cs off v.cells = cs') (hM : H1 = H.set id (.cells cs')) :
  OpS P ⟨dst, .store t x y, ty, pos, after, guard⟩ fr H (Det undefA H1) := opS_store (by
 subst hy he
 simp only [aStore, hti, hx, hm]
 exact ⟨h0, hf, hs, hc, hl, .refl _, hM.symm⟩)
section
variable {α : Type} {c : α → List PV}
theorem map_idx {l : List α} {i : Int} {a : α} (h : idx l i = some a) : 0 ≤ i ∧ (l.map c)[i.toNat]? = some (c a) := by
 obtain ⟨h0, h1⟩ := idx_some h
 exact ⟨h0, by rw [List.getElem?_map, h1]; rfl⟩
theorem o_indexAddr {t e : TypeId} {x y : Operand} {s b : Nat} {z : Option Value} {l : List α} {k : Tk} {kk : IntKind} {i : Int} {a : α} (hu : P.underlying t = some (.slice e)) (hti : tinf P e = some (s, b, z)) (hx : aev fr x = .sl s (l.map c) k)
  (hy : aev fr y = .sc (.int kk i)) (hi : idx l i = some a) : OpS P ⟨dst, .indexAddr t x y, ty, pos, after, guard⟩ fr H (Det (.ep (c a)) H) := opS_indexAddr (by
 obtain ⟨h0, h1⟩ := map_idx (c := c) hi
 simp only [aIndexAddr, hu, hti, hx, hy, h1]
 exact ⟨trivial, h0, .refl _, rfl⟩)
theorem o_indexAddrH {t e : TypeId} {x y : Operand} {s b : Nat} {z : Option Value} {id off len mc : Nat} {kk : IntKind} {i : Int} (hu : P.underlying t = some (.slice e)) (hti : tinf P e = some (s, b, z)) (hx : aev fr x = .hs id off len mc s)
  (hy : aev fr y = .sc (.int kk i)) (h0 : 0 ≤ i) (h1 : i < len) : OpS P ⟨dst, .indexAddr t x y, ty, pos, after, guard⟩ fr H (Det (.pt id (off + i.toNat * s)) H) := opS_indexAddr (by
 simp only [aIndexAddr, hu, hti, hx, hy]
 exact ⟨trivial, h0, h1, .refl _, rfl⟩)
theorem o_lenL {t e : TypeId} {x : Operand} {z : Nat} {l : List α} {k : Tk} (hu : P.underlying t = some (.slice e)) (hx : aev fr x = .sl z (l.map c) k) :
  OpS P ⟨dst, .call ⟨.builtin .len, #[x], #[t]⟩, ty, pos, after, guard⟩ fr H (Det (.sc (.int .i64 l.length)) H) := opS_len (n := l.length) (by simp only [aLen, hu, hx, List.length_map]) ⟨.refl _, rfl⟩
theorem o_lenH {t e : TypeId} {x : Operand} {id off len mc s : Nat} (hu : P.underlying t = some (.slice e)) (hx : aev fr x = .hs id off len mc s) :
  OpS P ⟨dst, .call ⟨.builtin .len, #[x], #[t]⟩, ty, pos, after, guard⟩ fr H (Det (.sc (.int .i64 len)) H) := opS_len (n := len) (by simp only [aLen, hu, hx]) ⟨.refl _, rfl⟩
theorem o_app1 {t u e : TypeId} {x y : Operand} {s b : Nat} {z : Value} {l l2 m : List α} {H1 : Mem} (hx : aev fr x = .sl s (l.map c) .ex ∨ (aev fr x = .sc (.slice none 0 0) ∧ l = [])) (hy : srcP s (aev fr y) H = some (l2.map c))
  (hu : P.underlying t = some (.slice e)) (hti : tinf P e = some (s, b, some z)) (hz : (zeroCs z).length = s) (hss : sliceStr P u = true) (happ : app b l l2 = some m) (hM : H1 = H ++ [.tok]) :
  OpS P ⟨dst, .call ⟨.builtin .append, #[x, y], #[t, u]⟩, ty, pos, after, guard⟩ fr H (Det (.sl s (m.map c) (.tk H.length)) H1) := by
 obtain ⟨h1, h2, rfl⟩ := app_some happ
 refine opS_append 1 ⟨hss, ?_⟩
 simp only [hu, hti, hy]
 refine ⟨hz, ?_⟩
 rcases hx with hx | ⟨hx, rfl⟩
 ·simp only [hx, List.length_map]
  refine ⟨trivial, h1, h2, fun h => by omega, ?_, hM.symm⟩
  rw [List.map_append]; exact .refl _
 ·simp only [hx, List.length_map]
  simp only [List.length_nil, Nat.zero_add] at h1 h2
  exact ⟨h1, h2, .refl _, hM.symm⟩
theorem o_appT {t u e : TypeId} {x y : Operand} {s b tk : Nat} {z : Value} {l l2 m : List α} {H1 : Mem} (hx : aev fr x = .sl s (l.map c) (.tk tk)) (hk : H[tk]? = some .tok) (hy : srcP s (aev fr y) H = some (l2.map c))
  (hu : P.underlying t = some (.slice e)) (hti : tinf P e = some (s, b, some z)) (hz : (zeroCs z).length = s) (hss : sliceStr P u = true) (happ : app b l l2 = some m) (hM : H1 = H.set tk .dead ++ [.tok]) :
  OpS P ⟨dst, .call ⟨.builtin .append, #[x, y], #[t, u]⟩, ty, pos, after, guard⟩ fr H (Det (.sl s (m.map c) (.tk H.length)) H1) := by
 obtain ⟨h1, h2, rfl⟩ := app_some happ
 refine opS_append 1 ⟨hss, ?_⟩
 simp only [hu, hti, hy, hx, List.length_map]
 refine ⟨hz, trivial, hk, h1, h2, ?_, hM.symm⟩
 rw [List.map_append]; exact .refl _
theorem o_app2 {t u e : TypeId} {x y : Operand} {s b : Nat} {z : Value} {l2 m : List α} {H1 : Mem} (hx : aev fr x = .sl s [] .ex ∨ aev fr x = .sc (.slice none 0 0)) (hy : srcP s (aev fr y) H = some (l2.map c))
  (hu : P.underlying t = some (.slice e)) (hti : tinf P e = some (s, b, some z)) (hz : (zeroCs z).length = s) (hss : sliceStr P u = true) (happ : app b [] l2 = some m) (hM : H1 = H ++ [.cells ((m.map c).flatten.map PV.av)]) :
  OpS P ⟨dst, .call ⟨.builtin .append, #[x, y], #[t, u]⟩, ty, pos, after, guard⟩ fr H (Det (.hs H.length 0 m.length m.length s) H1) := by
 obtain ⟨h1, h2, rfl⟩ := app_some happ
 simp only [List.length_nil, Nat.zero_add] at h1 h2
 refine opS_append 2 ⟨hss, ?_⟩
 simp only [hu, hti, hy]
 refine ⟨hz, ?_⟩
 have key : aFresh 2 s (m.map c) H (Det (.hs H.length 0 m.length m.length s) H1) := by
  show Det _ H1 (.hs H.length 0 (m.map c).length (m.map c).length s) (H ++ [.cells ((m.map c).flatten.map PV.av)])
  rw [List.length_map]
  exact ⟨.refl _, hM.symm⟩
 rcases hx with hx | hx
 ·simp only [hx, List.length_map, List.length_nil, Nat.zero_add]
  exact ⟨trivial, h1, h2, fun h => .inr trivial, key⟩
 ·simp only [hx, List.length_map]
  exact ⟨h1, h2, key⟩
theorem src_sl {s : Nat} {l : List α} {k : Tk} {x : AV} (h : x = .sl s (l.map c) k) : srcP s x H = some (l.map c) := by subst h; simp only [srcP, if_true]
theorem azeros_rep {zc : List AV} {cs : List PV} (h : zc = cs.map PV.av) (n : Nat) : azeros zc n = (List.replicate n cs).flatten.map PV.av := by
 induction n with
 | zero => rfl
 | succ n ih => rw [azeros, ih, List.replicate_succ, List.flatten_cons, List.map_append, h]
end
section
variable {α : Type} {c : α → List PV} {z : Nat}
theorem flat_len (hz : ∀ a, (c a).length = z) (l : List α) : ((l.map c).flatten.map PV.av).length = l.length * z := by
 rw [List.length_map, flatten_length (z := z) (by intro e he; obtain ⟨a, _, rfl⟩ := List.mem_map.1 he; exact hz a), List.length_map]
theorem flat_get (hz : ∀ a, (c a).length = z) : ∀ {l : List α} {i : Nat} {a : α}, l[i]? = some a → ∀ {j : Nat}, j < z → ((l.map c).flatten)[i * z + j]? = (c a)[j]?
 | [], i, a, h, j, hj => by simp at h
 | b :: l, 0, a, h, j, hj => by
  simp at h; subst h
  rw [List.map_cons, List.flatten_cons, Nat.zero_mul, Nat.zero_add, List.getElem?_append_left (by rw [hz]; exact hj)]
 | b :: l, i + 1, a, h, j, hj => by
  rw [List.getElem?_cons_succ] at h
  rw [List.map_cons, List.flatten_cons, List.getElem?_append_right (by rw [hz, Nat.add_mul]; omega), hz, show (i + 1) * z + j - z = i * z + j by rw [Nat.add_mul]; omega]
  exact flat_get hz h hj
theorem flat_set (hz : ∀ a, (c a).length = z) : ∀ {l : List α} {i : Nat} {a a' : α} {j : Nat} {p : PV}, l[i]? = some a → j < z → c a' = (c a).set j p → ((l.map c).flatten).set (i * z + j) p = ((l.set i a').map c).flatten
 | [], i, a, a', j, p, h, hj, hc => by simp at h
 | b :: l, 0, a, a', j, p, h, hj, hc => by
  simp at h; subst h
  rw [List.map_cons, List.flatten_cons, List.set_cons_zero, List.map_cons, List.flatten_cons, hc, Nat.zero_mul, Nat.zero_add, List.set_append_left _ _ (by rw [hz]; exact hj)]
 | b :: l, i + 1, a, a', j, p, h, hj, hc => by
  rw [List.getElem?_cons_succ] at h
  rw [List.map_cons, List.flatten_cons, List.set_cons_succ, List.map_cons, List.flatten_cons, List.set_append_right _ _ (by rw [hz, Nat.add_mul]; omega), hz, show (i + 1) * z + j - z = i * z + j by rw [Nat.add_mul]; omega, flat_set hz h hj hc]
theorem setAt_mid (C : List AV) : ∀ (A B vs : List AV), B.length = vs.length → setAt (A ++ (B ++ C)) A.length vs = A ++ (vs ++ C)
 | A, [], [], _ => rfl
 | A, b :: B, v :: vs, h => by
  have e1 : (A ++ (b :: B ++ C)).set A.length v = (A ++ [v]) ++ (B ++ C) := by
   rw [List.set_append_right _ _ (Nat.le_refl _), Nat.sub_self]; simp
  have e2 : A.length + 1 = (A ++ [v]).length := by simp
  rw [setAt, e1, e2, setAt_mid C (A ++ [v]) B vs (by simpa using h)]
  simp
 | A, [], v :: vs, h => by simp at h
 | A, b :: B, [], h => by simp at h
theorem o_indexAddrO {t e : TypeId} {x y : Operand} {s b : Nat} {zz : Option Value} {l : List α} {id n mc : Nat} {kk : IntKind} {i : Int} {a : α} (hu : P.underlying t = some (.slice e)) (hti : tinf P e = some (s, b, zz)) (hx : aev fr x = .hs id 0 n mc s)
  (hy : aev fr y = .sc (.int kk i)) (hn : l.length = n) (hi : idx l i = some a) : OpS P ⟨dst, .indexAddr t x y, ty, pos, after, guard⟩ fr H (Det (.pt id (i.toNat * s)) H) := by
 obtain ⟨h0, h1⟩ := idx_lt hi
 have := o_indexAddrH (P := P) (fr := fr) (H := H) (dst := dst) (ty := ty) (pos := pos) (after := after) (guard := guard) hu hti hx hy h0 (by rw [← hn]; exact h1)
 rw [Nat.zero_add] at this
 exact this
theorem o_loadO {t : TypeId} {x : Operand} {q : Nat × Nat × Option Value} {id off j : Nat} {l : List α} {i : Int} {a : α} {p : PV} {r : AV} (hag : aggT P t = some false) (hti : tinf P t = some q) (hx : aev fr x = .pt id off) (ho : off = i.toNat * z + j)
  (hm : H[id]? = some (.cells ((l.map c).flatten.map PV.av))) (hz : ∀ a, (c a).length = z) (hi : idx l i = some a) (hp : (c a)[j]? = some p) (h : AVLe p.av r) : OpS P ⟨dst, .load t x, ty, pos, after, guard⟩ fr H (Det r H) :=
 o_loadP hag hti hx hm (by
  rw [ho, List.getElem?_map, flat_get hz (idx_some hi).2 (by have := lt_of_get hp; rw [hz] at this; exact this), hp]; rfl) h
theorem OpS.memle {o : Oper} {r : AV} {H1 : Mem} {id : Nat} {cs cs' : List AV} (h : OpS P o fr H (Det r H1)) (hid : H1[id]? = some (.cells cs)) (hl : ALe cs cs') : OpS P o fr H (Det r (H1.set id (.cells cs'))) := fun g w ev h1 h2 =>
 Ls.mono (fun v w' s => by
  obtain ⟨r', H', g', ⟨k1, rfl⟩, hv, hm, he, hn⟩ := s
  exact ⟨r', _, g', ⟨k1, rfl⟩, by rw [List.length_set]; exact hv, hm.le hid hl, he, by rw [List.length_set]; exact hn⟩) (h g w ev h1 h2)
theorem ALe.set {cs : List AV} {v v' : AV} (h : AVLe v v') : ∀ (k : Nat), ALe (cs.set k v) (cs.set k v') := by
 induction cs with
 | nil => intro k; exact trivial
 | cons a cs ih =>
  intro k
  cases k with
  | zero => exact ⟨h, .refl _⟩
  | succ k => exact ⟨.refl _, ih k⟩
theorem o_storeO {t : TypeId} {x y : Operand} {b : Nat} {zz : Option Value} {id off j : Nat} {l m : List α} {i : Int} {a a' : α} {p : PV} {v : AV} {H1 : Mem} (hti : tinf P t = some (1, b, zz)) (hx : aev fr x = .pt id off) (ho : off = i.toNat * z + j) (hy : aev fr y = v)
  (hm : H[id]? = some (.cells ((l.map c).flatten.map PV.av))) (hz : ∀ a, (c a).length = z) (hi : idx l i = some a) (hj : j < z) (hs : v.cells = [v]) (hf : v.flat = true) (hce : v.cellish = true) (hle : AVLe v p.av) (hc : c a' = (c a).set j p)
  (hu : updL l i a' = some m) (hM : H1 = H.set id (.cells ((m.map c).flatten.map PV.av))) :
  OpS P ⟨dst, .store t x y, ty, pos, after, guard⟩ fr H (Det undefA H1) := by
 obtain ⟨_, _, rfl⟩ := updL_some hu
 have h1 := (idx_some hi).2
 have hlt := lt_of_get h1
 have hmul := Nat.mul_le_mul_right z (show i.toNat + 1 ≤ l.length by omega)
 rw [Nat.add_mul, Nat.one_mul] at hmul
 have base := o_store (P := P) (fr := fr) (H := H) (dst := dst) (ty := ty) (pos := pos) (after := after) (guard := guard) (t := t) (x := x) (y := y) (H1 := H.set id (.cells (((l.map c).flatten.map PV.av).set off v))) (v := v) hti hx hy hm (by decide) hf (by rw [hs]; rfl)
  (by rw [hs]; simp [hce]) (by rw [flat_len hz, ho]; omega) (by rw [hs]; rfl) rfl
 have := base.memle (id := id) (cs' := ((l.map c).flatten.map PV.av).set off p.av) (by rw [List.getElem?_set_self (lt_of_get hm)]) (ALe.set hle _)
 rw [List.set_set] at this
 rw [hM]
 have e : ((l.map c).flatten.map PV.av).set off p.av = ((l.set i.toNat a').map c).flatten.map PV.av := by
  rw [← flat_set hz h1 hj hc, ho, List.map_set]
 rw [e] at this
 exact this
theorem mapM_flat (hp : ∀ a, ((c a).map PV.av).mapM AV.pv = some (c a)) (l : List α) : ((l.map c).flatten.map PV.av).mapM AV.pv = some (l.map c).flatten := by
 induction l with
 | nil => rfl
 | cons a l ih => rw [List.map_cons, List.flatten_cons, List.map_append, List.mapM_append, hp, ih]; rfl
theorem chunk_flat (hz : ∀ a, (c a).length = z) (l : List α) : chunk z l.length (((l.map c).flatten.drop 0).take (l.length * z)) = l.map c := by
 rw [List.drop_zero, List.take_of_length_le (by have := flat_len hz l; rw [List.length_map] at this; omega)]
 induction l with
 | nil => rfl
 | cons a l ih => rw [List.length_cons, chunk, List.map_cons, List.flatten_cons, List.take_left' (hz a), List.drop_left' (hz a), ih]
def FrzL (fr : Frm) (id n s : Nat) (rows : List (List PV)) : List (Nat × AV) → Prop
 | [] => True
 | (d, v) :: q => (AVLe (fr d) v ∨ (∃ mc, fr d = .hs id 0 n mc s) ∧ v = .sl s rows .no) ∧ FrzL fr id n s rows q
theorem Reb.frz {N n0 : Nat} {H : Mem} {id n : Nat} {l : List α} {fl : List (Nat × AV)} (hz : ∀ a, (c a).length = z) (hp : ∀ a, ((c a).map PV.av).mapM AV.pv = some (c a)) (hid : H[id]? = some (.cells ((l.map c).flatten.map PV.av))) (hn : l.length = n)
  (h : FrzL fr id n z (l.map c) fl) : Reb N n0 fr (Frm.of fl) H (H.set id .dead) := fun g w tmps hn0 hf hm => by
 subst hn
 obtain ⟨hm1, hg1⟩ := hm.freeze hid
 refine ⟨_, ⟨hf.size, ?_⟩, hm1, ⟨⟨hg1.ro, fun i hi => hg1.mu i (by omega)⟩, fun b _ ho => ⟨ho, rfl⟩, Nat.le_refl _, rfl, rfl, rfl⟩, by simpa using hn0⟩
 intro t
 have hlen : (H.set id Ent.dead).length = H.length := by simp
 rw [hlen]
 have hv := hf.vr t
 generalize tmps.getD t undef = u at hv
 induction fl with
 | nil => exact .any _
 | cons p r ih =>
  obtain ⟨d, v⟩ := p
  obtain ⟨h1, h2⟩ := h
  by_cases e : t = d
  ·subst e
   simp only [Frm.of, if_true]
   rcases h1 with h1 | ⟨⟨mc, h1⟩, rfl⟩
   ·exact h1 _ _ _ (hv.mono hg1 (Nat.le_refl _))
   ·rw [h1] at hv
    generalize hq : l.length = q at hv
    cases hv with
    | hs _ _ _ _ _ cap hidl hll hmc hcap =>
     have := freeze_row (n := H.length) (off := 0) (len := q) (s := z) (cap := cap) hm hid (mapM_flat hp l) (by rw [flat_len hz, hq]; omega) (Nat.le_trans hll hmc)
     rw [← hq, chunk_flat hz] at this
     rw [← hq]; exact this
    | hn _ _ _ a hidl =>
     have : l = [] := List.eq_nil_of_length_eq_zero hq
     subst this
     cases a with
     | none => exact .nil z .no fun t e => by cases e
     | some a => exact VR.sl z [] .no a 0 (fun _ => undef) (.inl rfl) (Nat.le_refl _) (fun e he => by cases he) (fun k p hk => by simp at hk) trivial
  ·simp only [Frm.of, if_neg e]
   exact ih h2
end
theorem o_buildSlice0 {t e : TypeId} {len : Nat} {ps : Array (Nat × Operand)} {s b : Nat} {z : Value} {cs : List AV} {pcs : List PV} {r : AV} (hu : P.underlying t = some (.slice e)) (hti : tinf P e = some (s, b, some z)) (hz : (zeroCs z).length = s)
  (hn : len * s ≤ 16777216) (hf : afill (fun i => some (i * s, s)) (azeros (zeroCs z) len) (ps.toList.map fun x => (x.1, aev fr x.2)) = some cs) (hp : cs.mapM AV.pv = some pcs) (hr : AVLe (.sl s (chunk s len pcs) .ex) r) :
  OpS P ⟨dst, .buildSlice t len ps, ty, pos, after, guard⟩ fr H (Det r H) := opS_buildSlice 0 (by simp only [aBuildSlice, hu, hti, hf, hp]; exact ⟨hz, hn, hr, rfl⟩)
theorem o_call {f : FuncId} {xs : Array Operand} {ats : Array TypeId} {args : List AV} {r0 r : AV} {H1 : Mem} (hc : ACalls P f args H fun r' H' => r' = r0 ∧ H' = H1) (ha : ALe (xs.toList.map (aev fr)) args) (hr : AVLe r0 r) :
  OpS P ⟨dst, .call ⟨.value (.func f), xs, ats⟩, ty, pos, after, guard⟩ fr H (Det r H1) := opS_call ((ACalls.le ha hc).mono fun _ _ ⟨e1, e2⟩ => by subst e1 e2; exact ⟨hr, rfl⟩)
theorem o_callv {f : FuncId} {t : Nat} {first caps : List AV} {xs : Array Operand} {ats : Array TypeId} {args : List AV} {r0 r : AV} {H1 : Mem} (ht : fr t = .fn (.func f) first caps) (hc : ACalls P f args H fun r' H' => r' = r0 ∧ H' = H1)
  (ha : ALe (first ++ xs.toList.map (aev fr) ++ caps) args) (hr : AVLe r0 r) :
  OpS P ⟨dst, .call ⟨.value (.tmp t), xs, ats⟩, ty, pos, after, guard⟩ fr H (Det r H1) := opS_callv ht ((ACalls.le ha hc).mono fun _ _ ⟨e1, e2⟩ => by subst e1 e2; exact ⟨hr, rfl⟩)
end
theorem done_tmp {P : Program} {fn : Func} {N n0 : Nat} {t : Tmp} {fr : Frm} {M H1 : Mem} {r0 : AV} (hr : fn.results = #[.tmp t]) (h : AVLe (fr t) r0) (hp : H1 <+: M) :
  ∃ fr1 H', Reb N n0 fr fr1 M H' ∧ resS P fn fr1 H' fun r M => AVLe r r0 ∧ H1 <+: M := fin_here (resS_tmp hr ⟨h, hp⟩)
section
variable {P : Program} {fr : Frm} {M : Mem} {rs : List ResultVar} {asl : List AV} {r : AV}
end
end Go.Proofs.Ytafccpphghhnjaa.Am
namespace Go.Proofs.Ytafccpphghhnjaa.Am
open Go
set_option linter.unusedVariables false
section
variable {P : Program} {fr : Frm} {H : Mem} {dst : Option Nat} {ty : TypeId} {pos : String} {after : Array Edge} {guard : Option (Nat × Bool)}
theorem OpsS_nilT {ops : Array Oper} {rest : List Oper} {K : Frm → Mem → Prop} {t t' e : TypeId} {x y : Operand} {z : Nat} {es : List (List PV)} {k : Tk} (hg : agd ops fr ⟨dst, .binOp .eql t x y t', ty, pos, after, guard⟩ = some true)
  (hu : P.underlying t = some (.slice e)) (hx : aev fr x = .sl z es k) (hy : aev fr y = .sc (.slice none 0 0)) (h : ∀ b : Bool, (b = true → es = []) → OpsS P ops rest (fr.put dst (.sc (.bool b))) H K) :
  OpsS P ops (⟨dst, .binOp .eql t x y t', ty, pos, after, guard⟩ :: rest) fr H K := by
 simp only [OpsS, hg]
 exact opS_isNil hx hy (by unfold aNil; rw [hu]; exact fun b hb => h b hb)
end
theorem Bd.wide {n m : Nat} (h : n ≤ m) {a : AV} (hb : Bd n a) : Bd m a := by
 induction hb with
 | any => exact .any
 | sc v => exact .sc v
 | sl z es k hk => exact .sl z es k fun t e => Nat.lt_of_lt_of_le (hk t e) h
 | ag cs _ ih => exact .ag cs ih
 | tp cs _ ih => exact .tp cs ih
 | pt id off hid => exact .pt id off (by omega)
 | ep cs => exact .ep cs
 | hs id off len mc s hid => exact .hs id off len mc s (by omega)
 | mp id hid => exact .mp id (by omega)
 | fn f fs cs _ _ i1 i2 => exact .fn f fs cs i1 i2
theorem Bd.emono {n m : Nat} (h : n ≤ m) {e : Ent} (hb : e.Bd n) : e.Bd m := by
 cases e with
 | dead => trivial
 | tok => trivial
 | cells cs => exact fun i c hc => (hb i c hc).wide h
 | map es => exact fun k a hi => (hb k a hi).wide h
 | mpi es ents clock => exact fun k a hi => (hb k a hi).wide h
 | itr mid since seen stepped => exact Nat.lt_of_lt_of_le hb h
 | lit vs => trivial
 | tr cs => exact fun i c hc => (hb i c hc).mono fun _ ha => ha.wide h
theorem MBd.new {H : Mem} {cs : List AV} (hH : MBd H) (hc : cs.all AV.clo1 = true) : MBd (H ++ [.cells cs]) := fun id e he => by
 rcases get_snoc he with he | ⟨rfl, rfl⟩
 ·exact Bd.emono (by simp) (hH id e he)
 ·exact fun i c hc' => AV.clo1_bd (List.all_eq_true.1 hc c (List.mem_of_getElem? hc'))
theorem clo1_av (p : PV) : p.av.clo1 = true := by cases p <;> rfl
theorem MBd.newO {H : Mem} {ps : List PV} (hH : MBd H) : MBd (H ++ [.cells (ps.map PV.av)]) := hH.new (by rw [List.all_map, List.all_eq_true]; exact fun p _ => clo1_av p)
theorem MBd.setO {H : Mem} {p : Nat} {ps : List PV} (hH : MBd H) : MBd (H.set p (.cells (ps.map PV.av))) := hH.set (by rw [List.all_map, List.all_eq_true]; exact fun p _ => clo1_av p)
theorem AVLe.hsn {α : Type} {e n z : Nat} {l : List α} (h : l.length = n) : AVLe (.hs e 0 n n z) (.hs e 0 l.length l.length z) := by subst h; exact .refl _
theorem Bd_newO {n mc z : Nat} (H : Mem) (x : Ent) : Bd (H ++ [x]).length (.hs H.length 0 n mc z) := .hs _ _ _ _ _ (by simp)
theorem AVLt.hn (n z : Nat) : AVLt n (.sc (.slice none 0 0)) (.hs n 0 0 0 z) := fun _ _ _ hn h => by cases h; exact .hn n 0 z none hn
theorem Reb.none {N n0 : Nat} {fr : Frm} {H : Mem} {l : List (Nat × AV)} (h : FtL H.length fr l) : Reb N n0 fr (Frm.of l) H (H ++ [.cells []]) := fun g w tmps hl hf hm => by
 obtain ⟨m1, m2⟩ := hm.push_none
 refine ⟨_, ⟨hf.size, ?_⟩, m1, ⟨⟨m2.gle.ro, fun i hi => m2.gle.mu i (by omega)⟩, m2.un, m2.size, m2.os, m2.tape, m2.output⟩, by simp; omega⟩
 intro t
 have hfr := (hf.mono m2.gle (by simp : H.length ≤ (H ++ [Ent.cells []]).length)).vr t
 generalize tmps.getD t undef = u at hfr
 induction l with
 | nil => exact .any _
 | cons p r ih =>
  obtain ⟨d, v⟩ := p
  by_cases e : t = d
  ·subst e
   simp only [Frm.of, if_true]
   exact h.1 _ _ _ (by simp) hfr
  ·simp only [Frm.of, if_neg e]
   exact ih h.2
theorem Reb.tokM {N : Nat} {fr : Frm} {H M : Mem} {e t z : Nat} {es : List (List PV)} (hb : MBd H) (hp : H <+: M) (hk : M[e]? = some .tok) (hlo : H.length ≤ e) (ht : fr t = .sl z es (.tk e)) :
  Reb N H.length fr (Frm.of [(t, .sl z es (.tk H.length))]) M (H ++ [.tok]) := by
 obtain ⟨tl, rfl⟩ := hp
 obtain ⟨k, rfl⟩ : ∃ k, e = H.length + k := ⟨e - H.length, by omega⟩
 refine Reb.tok (Nat.le_refl _) hb (t := k) ?_ ⟨?_, trivial⟩
 ·rw [getElem?_tok] at hk; exact hk
 ·rw [ht]; exact Rn.tok
theorem Reb.ownM {N n mc : Nat} {fr : Frm} {H M : Mem} {e t z : Nat} {ps : List PV} (hb : MBd H) (hp : H <+: M) (hk : M[e]? = some (.cells (ps.map PV.av))) (hlo : H.length ≤ e) (ht : fr t = .hs e 0 n mc z) :
  Reb N H.length fr (Frm.of [(t, .hs H.length 0 n mc z)]) M (H ++ [.cells (ps.map PV.av)]) := by
 obtain ⟨tl, rfl⟩ := hp
 obtain ⟨k, rfl⟩ : ∃ k, e = H.length + k := ⟨e - H.length, by omega⟩
 refine Reb.keep [H.length + k] (Nat.le_refl _) hb rfl (by simp) (fun r h => by simp at h; omega) (fun j r e' h h' => ?_) (Rn.of (l := [(t, .hs H.length 0 n mc z)]) fun p hp => ?_)
 ·cases j with
  | zero =>
   simp at h h'; subst h h'
   refine ⟨_, hk, .cells _ _ rfl fun i c c' h1 h2 => ?_⟩
   rw [h1] at h2; cases h2
   rw [List.getElem?_map] at h1
   cases hx : ps[i]? with
   | none => rw [hx] at h1; cases h1
   | some p =>
    rw [hx] at h1; cases h1
    cases p with
    | sc v => exact .sc v
    | sl z es => exact .no z es .no
  | succ j => simp at h
 ·simp at hp; subst hp
  rw [ht]
  have := Rn.hs (τ := tau H.length [H.length + k]) (m := (H ++ [Ent.cells (ps.map PV.av)]).length) H.length 0 n mc z (by simp)
  rw [tau_hi] at this
  exact this
theorem MBd.newT {H : Mem} (hH : MBd H) : MBd (H ++ [.tok]) := fun id e he => by
 rcases get_snoc he with he | ⟨rfl, rfl⟩
 ·exact Bd.emono (by simp) (hH id e he)
 ·trivial
theorem Bd_newT {z : Nat} (H : Mem) (x : Ent) (es : List (List PV)) : Bd (H ++ [x]).length (.sl z es (.tk H.length)) := .sl _ _ _ fun t e => by cases e; simp
theorem done_reb {P : Program} {fn : Func} {N n0 : Nat} {t : Tmp} {fr : Frm} {M M1 : Mem} {r0 : AV} (hr : fn.results = #[.tmp t]) (h : Reb N n0 fr (Frm.of [(t, r0)]) M M1) :
  ∃ fr1 H', Reb N n0 fr fr1 M H' ∧ resS P fn fr1 H' fun r M => AVLe r r0 ∧ M1 <+: M := ⟨_, _, h, resS_tmp hr ⟨by simp only [Frm.of, if_true]; exact .refl _, List.prefix_refl _⟩⟩
end Go.Proofs.Ytafccpphghhnjaa.Am
namespace Go.Proofs.Ytafccpphghhnjaa.Am
open Go
def slcH (n : Nat) (lo hi : Int) : Option (Nat × Nat) := if 0 ≤ lo ∧ lo ≤ hi ∧ hi ≤ n then some (lo.toNat, hi.toNat - lo.toNat) else none
theorem slcH_some {n o k : Nat} {lo hi : Int} (h : slcH n lo hi = some (o, k)) : 0 ≤ lo ∧ lo ≤ hi ∧ hi ≤ n ∧ o = lo.toNat ∧ k = hi.toNat - lo.toNat := by
 unfold slcH at h
 split at h
 ·rename_i hc; cases h; exact ⟨hc.1, hc.2.1, hc.2.2, rfl, rfl⟩
 ·cases h
theorem slcH_le {n o k : Nat} {lo hi : Int} (h : slcH n lo hi = some (o, k)) : o + k ≤ n := by obtain ⟨h0, h1, h2, rfl, rfl⟩ := slcH_some h; omega
def mget {β : Type} (l : List (Int × β)) (k : Int) : Option β := (l.find? fun y => y.1 == k).map (·.2)
def mset {β : Type} (l : List (Int × β)) (k : Int) (v : β) : List (Int × β) := if l.any (·.1 == k) then l.map fun y => if y.1 == k then (k, v) else y else l ++ [(k, v)]
def fillL {α : Type} (l : List α) (o k : Nat) (a : α) : List α := l.take o ++ List.replicate k a ++ l.drop (o + k)
theorem fillL_len {α : Type} {l : List α} {o k : Nat} {a : α} (h : o + k ≤ l.length) : (fillL l o k a).length = l.length := by unfold fillL; simp; omega
def idxP {α : Type} (l : List α) (o n : Nat) (i : Int) : Option α := if 0 ≤ i ∧ i < n then idx l ((o : Int) + i) else none
theorem idxP_some {α : Type} {l : List α} {o n : Nat} {i : Int} {a : α} (h : idxP l o n i = some a) : 0 ≤ i ∧ i < n ∧ idx l ((o : Int) + i) = some a := by
 unfold idxP at h
 split at h
 ·rename_i hc; exact ⟨hc.1, hc.2, h⟩
 ·cases h
end Go.Proofs.Ytafccpphghhnjaa.Am
namespace Go.Proofs.Ytafccpphghhnjaa.Am
open Go
set_option linter.unusedVariables false
section
variable {P : Program} {fr : Frm} {H : Mem} {dst : Option Nat} {ty : TypeId} {pos : String} {after : Array Edge} {guard : Option (Nat × Bool)}
end
end Go.Proofs.Ytafccpphghhnjaa.Am
namespace Go.Proofs.Ytafccpphghhnjaa.Am
open Go
set_option linter.unusedVariables false
theorem MR.fewer {g : Gh} {H : Mem} {w : World} {id : Nat} {cs cs' : List AV} (hm : MR g H w) (hid : H[id]? = some (.cells cs)) (hl : cs' <+: cs) : MR g (H.set id (.cells cs')) w := by
 have hlen : (H.set id (Ent.cells cs')).length = H.length := by simp
 refine ⟨hm.ro, fun id' e he => ?_, fun b i hb => by rw [hlen]; exact hm.ow b i hb⟩
 rw [hlen]
 rcases get_set he with ⟨hne, he⟩ | ⟨rfl, rfl, _⟩
 ·exact hm.ent id' e he
 ·rcases hm.ent _ _ hid with ⟨e1, e2⟩ | ⟨h1, h2, h3, h4, h5⟩
  ·exact .inl ⟨by rw [e1] at hl; exact List.prefix_nil.1 hl, e2⟩
  ·refine .inr ⟨h1, h2, by have := hl.length_le; omega, h4, fun k c hc => h5 k c ?_⟩
   obtain ⟨tl, rfl⟩ := hl
   rw [List.getElem?_append_left (lt_of_get hc)]; exact hc
theorem AVLe.hsc {id k n z : Nat} (h : k ≤ n) : AVLe (.hs id 0 k n z) (.hs id 0 k k z) := fun g m v hv => by
 generalize hq : n = q at hv
 cases hv with
 | hs _ _ _ _ _ cap hid hl hmc hcap => exact .hs id 0 k k z cap hid (Nat.le_refl _) (by omega) hcap
 | hn _ _ _ a hid => exact .hn id 0 z a hid
theorem done_cut {α : Type} {c : α → List PV} {P : Program} {fn : Func} {N n0 : Nat} {t : Tmp} {fr : Frm} {M H1 : Mem} {id k n o z : Nat} {l : List α} (hr : fn.results = #[.tmp t]) (hid : M[id]? = some (.cells ((l.map c).flatten.map PV.av))) (ht : fr t = .hs id (o * z) k (n - o) z) (hn : l.length = n) (hk : k ≤ n ∧ o = 0)
  (hp : H1.set id (.cells ((l.map c).flatten.map PV.av)) <+: M) (hlt : id < H1.length) :
  ∃ fr1 H', Reb N n0 fr fr1 M H' ∧ resS P fn fr1 H' fun r M' => AVLe r (.hs id 0 (l.take k).length (l.take k).length z) ∧ H1.set id (.cells (((l.take k).map c).flatten.map PV.av)) <+: M' := by
 obtain ⟨hk, rfl⟩ := hk
 rw [Nat.zero_mul, Nat.sub_zero] at ht
 refine ⟨fr, M.set id (.cells (((l.take k).map c).flatten.map PV.av)), fun g w tmps hn0 hf hm => ?_, resS_tmp hr ⟨?_, ?_⟩⟩
 ·refine ⟨g, by rw [List.length_set]; exact hf, hm.fewer hid ?_, .refl _ _ _, by rw [List.length_set]; exact hn0⟩
  refine ⟨((l.drop k).map c).flatten.map PV.av, ?_⟩
  rw [← List.map_append, ← List.flatten_append, ← List.map_append, List.take_append_drop]
 ·rw [ht, List.length_take, hn, Nat.min_eq_left hk]
  exact .hsc hk
 ·have := pre_lo (i := id) (x := .cells (((l.take k).map c).flatten.map PV.av)) hp (by rw [List.length_set]; exact hlt)
  rw [List.set_set] at this
  exact this
section
variable {α : Type} {c : α → List PV} {z : Nat} {P : Program} {fr : Frm} {H : Mem} {dst : Option Nat} {ty : TypeId} {pos : String} {after : Array Edge} {guard : Option (Nat × Bool)}
theorem o_sliceHO {t e : TypeId} {x : Operand} {lo hi : Option Operand} {s b id n m k o : Nat} {zz : Option Value} {lo' hi' : Option (IntKind × Int)} (hu : P.underlying t = some (.slice e)) (hti : tinf P e = some (s, b, zz)) (hx : aev fr x = .hs id 0 n m s)
  (hl : bnd fr lo = some lo') (hh : bnd fr hi = some hi') (hs : slcH m (bd0 lo' 0) (bd0 hi' n) = some (o, k)) : OpS P ⟨dst, .slice t x lo hi none, ty, pos, after, guard⟩ fr H (Det (.hs id (o * s) k (m - o) s) H) := by
 obtain ⟨h0, h1, h2, rfl, rfl⟩ := slcH_some hs
 refine opS_slice (m := none) hl hh rfl ?_
 refine ⟨fun h => (by cases h), ?_⟩
 simp only [hu, hti, hx]
 refine ⟨trivial, h0, h1, h2, Int.le_refl _, ?_⟩
 rw [Nat.zero_add]
 exact ⟨.refl _, rfl⟩
theorem o_clearO {t e : TypeId} {x : Operand} {b id m k o : Nat} {zz : Value} {l : List α} {a : α} {H1 : Mem} (hu : P.underlying t = some (.slice e)) (hti : tinf P e = some (z, b, some zz)) (hzc : (zeroCs zz).length = z) (hce : (azeros (zeroCs zz) 1).all AV.cellish = true) (hzz : zeroCs zz = (c a).map PV.av)
  (hz : ∀ a, (c a).length = z) (hx : aev fr x = .hs id (o * z) k m z) (hid : H[id]? = some (.cells ((l.map c).flatten.map PV.av))) (hn : o + k ≤ l.length) (hM : H1 = H.set id (.cells (((fillL l o k a).map c).flatten.map PV.av))) :
  OpS P ⟨dst, .call ⟨.builtin .clear, #[x], #[t]⟩, ty, pos, after, guard⟩ fr H (Det (.tp []) H1) := opS_clear (by
 simp only [aClear, hu, hti, hx, hid]
 refine ⟨hzc, hce, trivial, ?_, .refl _, ?_⟩
 ·rw [flat_len hz, ← Nat.add_mul]; exact Nat.mul_le_mul_right _ hn
 ·rw [hM, azeros_rep hzz]
  congr 2
  have e : l = l.take o ++ ((l.drop o).take k ++ l.drop (o + k)) := by rw [← List.drop_drop, List.take_append_drop, List.take_append_drop]
  have el : o * z = (((l.take o).map c).flatten.map PV.av).length := by rw [flat_len hz, List.length_take, Nat.min_eq_left (by omega)]
  have er : List.replicate k (c a) = (List.replicate k a).map c := by rw [List.map_replicate]
  rw [er]
  conv => lhs; arg 1; rw [e]
  unfold fillL
  simp only [List.map_append, List.flatten_append, List.append_assoc]
  conv => lhs; rw [el]
  rw [setAt_mid]
  rw [flat_len hz, flat_len hz, List.length_replicate, List.length_take, List.length_drop]
  congr 1
  omega)
theorem o_indexAddrP {t e : TypeId} {x y : Operand} {s b : Nat} {zz : Option Value} {l : List α} {id n m o : Nat} {kk : IntKind} {i : Int} {a : α} (hu : P.underlying t = some (.slice e)) (hti : tinf P e = some (s, b, zz)) (hx : aev fr x = .hs id (o * s) n m s)
  (hy : aev fr y = .sc (.int kk i)) (hi : idxP l o n i = some a) : OpS P ⟨dst, .indexAddr t x y, ty, pos, after, guard⟩ fr H (Det (.pt id ((o + i.toNat) * s)) H) := by
 obtain ⟨h0, h1, _⟩ := idxP_some hi
 have := o_indexAddrH (P := P) (fr := fr) (H := H) (dst := dst) (ty := ty) (pos := pos) (after := after) (guard := guard) hu hti hx hy h0 h1
 rw [← Nat.add_mul] at this
 exact this
end
end Go.Proofs.Ytafccpphghhnjaa.Am
namespace Go.Proofs.Ytafccpphghhnjaa.Am
open Go
set_option linter.unusedVariables false
def RebM (H H1 : Mem) : Prop := H.length ≤ H1.length ∧ ∀ (g : Gh) (w : World), MR g H w → ∃ g1, MR g1 H1 w ∧ Ev H.length g w g1 w
theorem RebM.refl (H : Mem) : RebM H H := ⟨Nat.le_refl _, fun g w h => ⟨g, h, .refl _ _ _⟩⟩
theorem RebM.trans {H H1 H2 : Mem} (h : RebM H H1) (h' : RebM H1 H2) : RebM H H2 := ⟨Nat.le_trans h.1 h'.1, fun g w hm => by
 obtain ⟨g1, m1, e1⟩ := h.2 g w hm
 obtain ⟨g2, m2, e2⟩ := h'.2 g1 w m1
 exact ⟨g2, m2, e1.trans e2 h.1⟩⟩
theorem Ev.less {n n0 : Nat} {g g' : Gh} {w w' : World} (h : Ev n g w g' w') (hn : n0 ≤ n) : Ev n0 g w g' w' := ⟨⟨h.gle.ro, fun i hi => h.gle.mu i (by omega)⟩, h.un, h.size, h.os, h.tape, h.output⟩
theorem EntR.tr_of_cells {g : Gh} {n : Nat} {w : World} {id : Nat} {cs : List AV} (h : EntR g n w id (.cells cs)) : EntR g n w id (.tr (cs.map .av)) := by
 rcases h with ⟨h1, h2⟩ | ⟨h1, h2, h3, h4, h5⟩
 ·exact .inl ⟨by rw [h1]; rfl, h2⟩
 refine .inr ⟨fun b => if b = (g.mu id).b then some [] else none, fun b p hp => ?_, by simp, h2, by simpa using h3, h4, fun k c hc => ?_⟩
 ·simp only at hp
  split at hp
  ·rename_i e; rw [e]; exact h1
  ·cases hp
 ·rw [List.getElem?_map] at hc
  cases hk : cs[k]? with
  | none => rw [hk] at hc; cases hc
  | some a =>
   rw [hk] at hc; cases hc
   obtain ⟨v, hv, hr⟩ := h5 k a hk
   exact ⟨v, hv, .av _ _ _ hr⟩
theorem EntR.cells_of_tr {g : Gh} {n : Nat} {w : World} {id : Nat} {cs : List AV} (h : EntR g n w id (.tr (cs.map .av))) : EntR g n w id (.cells cs) := by
 rcases h with ⟨h1, h2⟩ | ⟨ow, h0, h1, h2, h3, h4, h5⟩
 ·exact .inl ⟨by simpa using h1, h2⟩
 refine .inr ⟨h0 _ _ h1, h2, by simpa using h3, h4, fun k c hc => ?_⟩
 obtain ⟨v, hv, hr⟩ := h5 k (.av c) (by rw [List.getElem?_map, hc]; rfl)
 cases hr with
 | av _ _ _ hr => exact ⟨v, hv, hr⟩
theorem MR.retell {g : Gh} {H : Mem} {w : World} {id : Nat} {e : Ent} (hm : MR g H w) (h : EntR g H.length w id e) : MR g (H.set id e) w := by
 have hlen : (H.set id e).length = H.length := by simp
 refine ⟨hm.ro, fun id' x hx => ?_, fun b i hb => by rw [hlen]; exact hm.ow b i hb⟩
 rw [hlen]
 rcases get_set hx with ⟨hne, hx⟩ | ⟨rfl, rfl, _⟩
 ·exact hm.ent id' x hx
 ·exact h
theorem RebM.tell {H : Mem} {id : Nat} {e : Ent} (h : ∀ g w, MR g H w → EntR g H.length w id e) : RebM H (H.set id e) := ⟨by simp, fun g w hm => ⟨g, hm.retell (h g w hm), .refl _ _ _⟩⟩
theorem RebM.tr {H : Mem} {p : Nat} {cs : List AV} {ts : List Tr} (hp : H[p]? = some (.cells cs)) (ht : ts = cs.map .av) : RebM H (H.set p (.tr ts)) := .tell fun g w hm => by subst ht; exact (hm.ent p _ hp).tr_of_cells
theorem RebM.cells {H : Mem} {p : Nat} {cs : List AV} {ts : List Tr} (hp : H[p]? = some (.tr ts)) (ht : ts = cs.map .av) : RebM H (H.set p (.cells cs)) := .tell fun g w hm => by subst ht; exact (hm.ent p _ hp).cells_of_tr
theorem TrR.cells {g : Gh} {n : Nat} {w : World} {q : Nat} {ds : List Tr} (h : EntR g n w q (.tr ds)) (hne : ds ≠ [] ∨ (g.mu q).o ≤ (g.mu q).l) : ∃ ow : Nat → Option (List Nat), (∀ b p, ow b = some p → g.ow b = some q) ∧ ow (g.mu q).b = some [] ∧ Blk w (g.mu q).b (g.mu q).l ∧
   (g.mu q).o + ds.length ≤ (g.mu q).l ∧ (∀ o, g.ro (g.mu q).b o = none) ∧ ∃ f : Nat → Value, (∀ (k : Nat) c, ds[k]? = some c → w.cell? ⟨(g.mu q).b, (g.mu q).o + k, none⟩ = some (f k)) ∧ ∀ (k : Nat) c, ds[k]? = some c → TrR g n w ow [k] c (f k) := by
 rcases h with ⟨h1, h2⟩ | ⟨ow, h0, h1, h2, h3, h4, h5⟩
 ·rcases hne with h | h
  ·exact absurd h1 h
  ·omega
 refine ⟨ow, h0, h1, h2, h3, h4, fun k => (w.cell? ⟨(g.mu q).b, (g.mu q).o + k, none⟩).getD undef, fun k c hc => ?_, fun k c hc => ?_⟩
 ·obtain ⟨v, hv, _⟩ := h5 k c hc; simp only [hv]; rfl
 ·obtain ⟨v, hv, hr⟩ := h5 k c hc; simp only [hv]; exact hr
def under (k : Nat) : Option (List Nat) → Option (List Nat)
 | some (j :: r) => if j = k then some r else none
 | _ => none
theorem under_self (k : Nat) (r : List Nat) : under k (some (k :: r)) = some r := by simp [under]
theorem TrR.out {g g' : Gh} {n n' k j : Nat} {w : World} {ow : Nat → Option (List Nat)} {t : Tr} {v : Value} (h : TrR g n w ow [k, j] t v) (hg : Gle n g g') (hn : n ≤ n') (hro : ∀ b r, ow b = some (k :: r) → ∀ o, g'.ro b o = g.ro b o) :
  TrR g' n' w (fun b => under k (ow b)) [j] t v := h.move hg hn [j] fun b r hb => ⟨by simp only [hb]; exact under_self k _, hro b _ hb, rfl⟩
abbrev Tr.Clo (t : Tr) : Prop := t.All fun a => a.clo1 = true
theorem Clo.row {z n : Nat} (ps : List PV) : (Tr.hs z n ((ps.map PV.av).map .av)).Clo := .hs _ _ _ fun i c hc => by
 rw [List.map_map, List.getElem?_map] at hc
 cases h : ps[i]? with
 | none => rw [h] at hc; cases hc
 | some p => rw [h] at hc; cases hc; exact .av _ (clo1_av p)
theorem Clo.nil : ∀ c ∈ ([] : List Tr), c.Clo := fun c h => by cases h
theorem Clo.cons {t : Tr} {l : List Tr} (h : t.Clo) (hl : ∀ c ∈ l, c.Clo) : ∀ c ∈ t :: l, c.Clo := fun c hc => by
 rcases List.mem_cons.1 hc with rfl | hc
 ·exact h
 ·exact hl c hc
theorem Clo.pt {l : List Tr} (hl : ∀ c ∈ l, c.Clo) : (Tr.pt l).Clo := .pt _ fun i c hc => hl c (List.mem_of_getElem? hc)
theorem Clo.rows {z n : Nat} {l : List Tr} (hl : ∀ c ∈ l, c.Clo) : (Tr.hs z n l).Clo := .hs _ _ _ fun i c hc => hl c (List.mem_of_getElem? hc)
theorem Clo.map {α : Type} {l : List α} {k : α → Value} {v : α → AV} (h : ∀ x, (v x).clo1 = true) : (Tr.mp (l.map fun x => (k x, v x))).Clo := .mp _ fun k' a hi => by
 obtain ⟨x, _, hx⟩ := List.mem_map.1 hi
 cases hx; exact h x
end Go.Proofs.Ytafccpphghhnjaa.Am
namespace Go.Proofs.Ytafccpphghhnjaa.Am
open Go
set_option linter.unusedVariables false
section
variable {α : Type} {c : α → List PV} {z : Nat} {P : Program} {fr : Frm} {H : Mem} {dst : Option Nat} {ty : TypeId} {pos : String} {after : Array Edge} {guard : Option (Nat × Bool)}
end
theorem RebM.mem {H : Mem} {id : Nat} {cs cs' : List AV} (hid : H[id]? = some (.cells cs)) (hl : ALe cs cs') : RebM H (H.set id (.cells cs')) := ⟨by simp, fun g w hm => ⟨g, hm.le hid hl, .refl _ _ _⟩⟩
theorem OpS.post {P : Program} {o : Oper} {fr : Frm} {H H1 H2 : Mem} {r : AV} (h : OpS P o fr H (Det r H1)) (rb : RebM H1 H2) : OpS P o fr H (Det r H2) := fun g w ev h1 h2 =>
 Ls.mono (fun v w' s => by
  obtain ⟨r', H', g', ⟨k1, k2⟩, hv, hm, he, hn⟩ := s
  subst k2
  obtain ⟨g1, m1, e1⟩ := rb.2 g' w' hm
  exact ⟨r', _, g1, ⟨k1, rfl⟩, hv.mono e1.gle rb.1, m1, he.trans (e1.less hn) (Nat.le_refl _), Nat.le_trans hn rb.1⟩) (h g w ev h1 h2)
theorem ALe.app : ∀ {a a' b b' : List AV}, ALe a a' → ALe b b' → ALe (a ++ b) (a' ++ b')
 | [], [], _, _, _, h => h
 | _ :: _, _ :: _, _, _, h, h' => ⟨h.1, ALe.app h.2 h'⟩
 | [], _ :: _, _, _, h, _ => h.elim
 | _ :: _, [], _, _, h, _ => h.elim
section
variable {α : Type} {c : α → List PV} {z : Nat} {P : Program} {fr : Frm} {H : Mem} {dst : Option Nat} {ty : TypeId} {pos : String} {after : Array Edge} {guard : Option (Nat × Bool)}
end
theorem Rn.clo1 {τ : Nat → Nat} {m : Nat} {a : AV} (h : a.clo1 = true) : Rn τ m a a := by
 unfold AV.clo1 at h
 split at h
 ·exact .any _
 ·exact .sc _
 ·exact .no _ _ _
 ·exact .ex _ _
 ·exact .ep _
 ·cases h
end Go.Proofs.Ytafccpphghhnjaa.Am
namespace Go.Proofs.Ytafccpphghhnjaa.Am
open Go
open Go.MapKept (Stamped IsKey)
set_option linter.unusedVariables false
section
variable {β : Type} {kd : IntKind} {v : β → AV}
abbrev ent (kd : IntKind) (v : β → AV) (l : List (Int × β)) : List (Value × AV) := l.map fun y => (.int kd y.1, v y.2)
theorem ent_keys {l : List (Int × β)} : (ent kd v l).Pairwise (fun x y => x.1 ≠ y.1) ↔ l.Pairwise fun x y => x.1 ≠ y.1 := by
 rw [List.pairwise_map]
 constructor <;> intro h <;> refine h.imp fun hab e => hab ?_
 ·rw [e]
 ·injection e
theorem mget_some {l : List (Int × β)} {k : Int} {b : β} (h : mget l k = some b) : (k, b) ∈ l := by
 unfold mget at h
 cases hf : l.find? fun y => y.1 == k with
 | none => rw [hf] at h; cases h
 | some y =>
  rw [hf] at h
  obtain ⟨y1, y2⟩ := y
  simp only [Option.map_some, Option.some.injEq] at h
  have := List.find?_some hf
  simp at this
  subst this h
  exact List.mem_of_find?_eq_some hf
theorem mget_none {l : List (Int × β)} {k : Int} (h : mget l k = none) : ∀ b, (k, b) ∉ l := fun b hb => by
 unfold mget at h
 rw [Option.map_eq_none_iff, List.find?_eq_none] at h
 exact h _ hb (by simp)
theorem mset_mem {l : List (Int × β)} {k : Int} {b : β} {y : Int × β} : y ∈ mset l k b ↔ y = (k, b) ∨ (y ∈ l ∧ y.1 ≠ k) := by
 unfold mset
 split
 ·rename_i ha
  rw [List.any_eq_true] at ha
  obtain ⟨z, hz, hzk⟩ := ha
  rw [List.mem_map]
  constructor
  ·rintro ⟨x, hx, rfl⟩
   split
   ·exact .inl rfl
   ·rename_i hne; exact .inr ⟨hx, by simpa using hne⟩
  ·rintro (rfl | ⟨h1, h2⟩)
   ·exact ⟨z, hz, by rw [if_pos hzk]⟩
   ·exact ⟨y, h1, by rw [if_neg (by simpa using h2)]⟩
 ·rename_i ha
  rw [List.mem_append, List.mem_singleton]
  constructor
  ·rintro (h | h)
   ·refine .inr ⟨h, fun e => ha ?_⟩
    rw [List.any_eq_true]; exact ⟨y, h, by simpa using e⟩
   ·exact .inl h
  ·rintro (h | h)
   ·exact .inr h
   ·exact .inl h.1
theorem mset_keys {l : List (Int × β)} (hk : l.Pairwise fun x y => x.1 ≠ y.1) (k : Int) (b : β) : (mset l k b).Pairwise fun x y => x.1 ≠ y.1 := by
 unfold mset
 split
 ·rw [List.pairwise_map]
  refine hk.imp fun {x y} h => ?_
  by_cases hx : x.1 = k <;> by_cases hy : y.1 = k
  ·exact absurd (hx.trans hy.symm) h
  ·simp [hx, hy]; exact Ne.symm hy
  ·simp [hx, hy]
  ·simp [hx, hy]; exact h
 ·rename_i ha
  rw [List.pairwise_append]
  refine ⟨hk, List.pairwise_singleton _ _, fun x hx y hy => ?_⟩
  rw [List.mem_singleton] at hy; subst hy
  intro e
  refine ha ?_
  rw [List.any_eq_true]; exact ⟨x, hx, by simpa using e⟩
theorem mset_length_in {l : List (Int × β)} {k : Int} {b c : β} (h : (k, c) ∈ l) : (mset l k b).length = l.length := by
 unfold mset
 rw [if_pos (by rw [List.any_eq_true]; exact ⟨_, h, by simp⟩), List.length_map]
theorem mset_length_out {l : List (Int × β)} {k : Int} {b : β} (h : mget l k = none) : (mset l k b).length = l.length + 1 := by
 unfold mset
 rw [if_neg, List.length_append, List.length_singleton]
 rw [List.any_eq_true]
 rintro ⟨y, hy, e⟩
 have : y.1 = k := by simpa using e
 exact mget_none h y.2 (by rw [← this]; exact hy)
theorem push_toList {ents : Array MapEntry} {x y : MapEntry} : y ∈ (ents.push x).toList ↔ y ∈ ents.toList ∨ y = x := by simp
theorem MapR.push {g : Gh} {n : Nat} {l : List (Int × β)} {ents : Array MapEntry} {clock : Nat} (hm : MapR g n (ent kd v l) ents clock) {k : Int} (hk : ∀ x ∈ ents.toList, x.key ≠ .int kd k) (hg : mget l k = none) {b : β} {u : Value} (hv : VR g n (v b) u) :
  MapR g n (ent kd v (mset l k b)) (ents.push ⟨.int kd k, u, clock⟩) (clock + 1) := by
 refine ⟨MapKept.stamped_push hm.st hk, ?_, ent_keys.2 (mset_keys (ent_keys.1 hm.keys) k b), fun k' a ha => ?_, fun x hx => ?_⟩
 ·rw [Array.size_push, List.length_map, mset_length_out hg, hm.size, List.length_map]
 ·obtain ⟨y, hy, hya⟩ := List.mem_map.1 ha
  cases hya
  rcases mset_mem.1 hy with rfl | ⟨h1, h2⟩
  ·exact ⟨_, push_toList.2 (.inr rfl), rfl, hv⟩
  ·obtain ⟨x, x1, x2, x3⟩ := hm.get _ _ (List.mem_map.2 ⟨y, h1, rfl⟩)
   exact ⟨x, push_toList.2 (.inl x1), x2, x3⟩
 ·rcases push_toList.1 hx with hx | rfl
  ·obtain ⟨a, ha⟩ := hm.all x hx
   obtain ⟨y, hy, hya⟩ := List.mem_map.1 ha
   refine ⟨a, List.mem_map.2 ⟨y, mset_mem.2 (.inr ⟨hy, fun e => hk x hx ?_⟩), hya⟩⟩
   have := (congrArg Prod.fst hya).symm
   simp only at this
   rw [this, e]
  ·exact ⟨v b, List.mem_map.2 ⟨(k, b), mset_mem.2 (.inl rfl), rfl⟩⟩
theorem MapR.modify {g : Gh} {n : Nat} {l : List (Int × β)} {ents : Array MapEntry} {clock : Nat} (hm : MapR g n (ent kd v l) ents clock) {k : Int} {j : Nat} {e : MapEntry} (hj : ents[j]? = some e) (he : e.key = .int kd k) {b c : β} (hg : mget l k = some c) {u : Value} (hv : VR g n (v b) u) :
  MapR g n (ent kd v (mset l k b)) (ents.modify j fun e' => { e' with key := .int kd k, val := u }) clock := by
 have hkeyf : ∀ e', ents[j]? = some e' → ({ e' with key := .int kd k, val := u } : MapEntry).key = e'.key := fun e' h => by rw [hj] at h; cases h; exact he.symm
 have hn := (MapKept.stamped_iff _ _).1 hm.st
 have hej : e ∈ ents.toList := Array.mem_toList_iff.2 (Array.mem_of_getElem? hj)
 have hmem : ∀ x, x ∈ (ents.modify j fun e' => { e' with key := .int kd k, val := u }).toList ↔ x = { e with key := .int kd k, val := u } ∨ (x ∈ ents.toList ∧ x.key ≠ .int kd k) := fun x => by
  rw [Array.mem_toList_iff, Array.mem_iff_getElem?]
  constructor
  ·rintro ⟨i, hi⟩
   rw [Array.getElem?_modify] at hi
   by_cases hij : j = i
   ·subst hij
    rw [if_pos rfl, hj] at hi
    simp only [Option.map_some, Option.some.injEq] at hi
    exact .inl hi.symm
   ·rw [if_neg hij] at hi
    refine .inr ⟨Array.mem_toList_iff.2 (Array.mem_of_getElem? hi), fun e2 => hij ?_⟩
    have h1 : ents.toList[j]? = some e := by simpa using hj
    have h2 : ents.toList[i]? = some x := by simpa using hi
    have hp := List.pairwise_iff_getElem.1 hn.2.2
    have l1 := lt_of_get h1
    have l2 := lt_of_get h2
    rw [List.getElem?_eq_getElem l1] at h1
    rw [List.getElem?_eq_getElem l2] at h2
    have k1 := congrArg MapEntry.key (Option.some.inj h1)
    have k2 := congrArg MapEntry.key (Option.some.inj h2)
    rcases Nat.lt_trichotomy j i with h3 | h3 | h3
    ·exact absurd (k1.trans (he.trans (e2.symm.trans k2.symm))) (hp _ _ l1 l2 h3)
    ·exact h3
    ·exact absurd (k2.trans (e2.trans (he.symm.trans k1.symm))) (hp _ _ l2 l1 h3)
  ·rintro (rfl | ⟨h1, h2⟩)
   ·exact ⟨j, by rw [Array.getElem?_modify, if_pos rfl, hj]; rfl⟩
   ·obtain ⟨i, hi⟩ := Array.mem_iff_getElem?.1 (Array.mem_toList_iff.1 h1)
    refine ⟨i, ?_⟩
    rw [Array.getElem?_modify, if_neg]
    ·exact hi
    ·intro e2; subst e2; rw [hj] at hi; cases hi; exact h2 he
 refine ⟨MapKept.stamped_modify hm.st _ _ (fun _ _ => rfl) (fun e' _ h => hkeyf e' h), ?_, ent_keys.2 (mset_keys (ent_keys.1 hm.keys) k b), fun k' a ha => ?_, fun x hx => ?_⟩
 ·rw [Array.size_modify, List.length_map, mset_length_in (mget_some hg), hm.size, List.length_map]
 ·obtain ⟨y, hy, hya⟩ := List.mem_map.1 ha
  cases hya
  rcases mset_mem.1 hy with rfl | ⟨h1, h2⟩
  ·exact ⟨_, (hmem _).2 (.inl rfl), rfl, hv⟩
  ·obtain ⟨x, x1, x2, x3⟩ := hm.get _ _ (List.mem_map.2 ⟨y, h1, rfl⟩)
   exact ⟨x, (hmem _).2 (.inr ⟨x1, fun e2 => h2 (by rw [x2] at e2; injection e2)⟩), x2, x3⟩
 ·rcases (hmem x).1 hx with rfl | ⟨h1, h2⟩
  ·exact ⟨v b, List.mem_map.2 ⟨(k, b), mset_mem.2 (.inl rfl), rfl⟩⟩
  ·obtain ⟨a, ha⟩ := hm.all x h1
   obtain ⟨y, hy, hya⟩ := List.mem_map.1 ha
   refine ⟨a, List.mem_map.2 ⟨y, mset_mem.2 (.inr ⟨hy, fun e => h2 ?_⟩), hya⟩⟩
   have := (congrArg Prod.fst hya).symm
   simp only at this
   rw [this, e]
theorem MapR.nil (g : Gh) (n : Nat) : MapR g n [] #[] 0 := ⟨MapKept.stamped_empty 0, rfl, .nil, (fun k a h => by cases h), (fun x h => by simp at h)⟩
end
section
variable {P : Program} {fr : Frm} {H : Mem} {dst : Option Nat} {ty : TypeId} {pos : String} {after : Array Edge} {guard : Option (Nat × Bool)}
variable {β : Type} {kd : IntKind} {v : β → AV}
end
end Go.Proofs.Ytafccpphghhnjaa.Am
namespace Go.Proofs.Ytafccpphghhnjaa.Am
open Go
open Go.ChangeMaps (setBlock)
open Go.MapKept (Stamped IsKey)
set_option linter.unusedVariables false
structure MapP (es : List (Value × AV)) (ents : Array MapEntry) (clock : Nat) : Prop where
 st : Stamped ents clock
 keys : es.Pairwise fun x y => x.1 ≠ y.1
 key : ∀ x, x ∈ ents.toList → ∃ a, (x.key, a) ∈ es
 ent : ∀ k a, (k, a) ∈ es → ∃ x, x ∈ ents.toList ∧ x.key = k
theorem MapR.p {g : Gh} {n : Nat} {es : List (Value × AV)} {ents : Array MapEntry} {clock : Nat} (h : MapR g n es ents clock) : MapP es ents clock :=
 ⟨h.st, h.keys, h.all, fun k a ha => let ⟨x, x1, x2, _⟩ := h.get k a ha; ⟨x, x1, x2⟩⟩
section
variable {P : Program} {fr : Frm} {H : Mem} {dst : Option Nat} {ty : TypeId} {pos : String} {after : Array Edge} {guard : Option (Nat × Bool)}
end
section
variable {β : Type}
end
end Go.Proofs.Ytafccpphghhnjaa.Am
namespace Go.Proofs.Ytafccpphghhnjaa.Am
open Go
set_option linter.unusedVariables false
section
variable {P : Program} {fr : Frm} {H : Mem} {dst : Option Nat} {ty : TypeId} {pos : String} {after : Array Edge} {guard : Option (Nat × Bool)}
end
end Go.Proofs.Ytafccpphghhnjaa.Am
namespace Go.Proofs.Ytafccpphghhnjaa.Am
open Go
set_option linter.unusedVariables false
section
variable {P : Program} {fr : Frm} {H : Mem} {K : AV → Mem → Prop} {dst : Option Nat} {ty : TypeId} {pos : String} {after : Array Edge} {guard : Option (Nat × Bool)}
theorem o_buildA {t e n : TypeId} {ps : Array (Nat × Operand)} {s b se be : Nat} {z : Value} {ze : Option Value} {cs : List AV} {r : AV} (hti : tinf P t = some (s, b, some z)) (hu : P.underlying t = some (.array n e)) (hte : tinf P e = some (se, be, ze))
  (hf : afill (fun i => some (i * se, se)) (zeroCs z) (ps.toList.map fun x => (x.1, aev fr x.2)) = some cs) (hr : AVLe (.ag cs) r) : OpS P ⟨dst, .build t ps, ty, pos, after, guard⟩ fr H (Det r H) := opS_build (by
 simp only [aBuild, hti, hu, hte, hf]
 exact ⟨hr, rfl⟩)
theorem o_indexAddrC {t e n : Nat} {x y : Operand} {s b : Nat} {zz : Option Value} {id off : Nat} {kk : IntKind} {i : Int} (hu : P.underlying t = some (.array n e)) (hti : tinf P e = some (s, b, zz)) (hx : aev fr x = .pt id off)
  (hy : aev fr y = .sc (.int kk i)) (h0 : 0 ≤ i) (h1 : i < n) {o : Nat} (ho : off + i.toNat * s = o) : OpS P ⟨dst, .indexAddr t x y, ty, pos, after, guard⟩ fr H (Det (.pt id o) H) := opS_indexAddr (by
 simp only [aIndexAddr, hu, hti, hx, hy]
 rw [ho]
 exact ⟨h0, h1, .refl _, rfl⟩)
end
end Go.Proofs.Ytafccpphghhnjaa.Am
namespace Go.Proofs.Ytafccpphghhnjaa.Am
open Go
set_option linter.unusedVariables false
section
variable {P : Program} {fr : Frm} {H : Mem} {K : AV → Mem → Prop} {dst : Option Nat} {ty : TypeId} {pos : String} {after : Array Edge} {guard : Option (Nat × Bool)}
end
end Go.Proofs.Ytafccpphghhnjaa.Am
namespace Go.Proofs.Ytafccpphghhnjaa.Am
open Go
abbrev kI (n : Int) : AV := .sc (.int .i64 n)
abbrev kY (n : Int) : AV := .sc (.int .u8 n)
abbrev kB (b : Bool) : AV := .sc (.bool b)
abbrev w64 (n : Int) : Int := IntKind.wrap .i64 n
theorem eqM {M M1 : Mem} {e : Nat} {x : Ent} (hM : M1 = M) (h : M[e]? = some x) : M1[e]? = some x := hM ▸ h
theorem eqP {H M M1 : Mem} (hM : M1 = M) (h : H <+: M) : H <+: M1 := hM ▸ h
theorem rf {a : AV} : AVLe a a := .refl a
theorem sI {α : Type} {a b : α} (h : some a = some b) : a = b := Option.some.inj h
theorem sz (n : Nat) : n + 1 ≠ 0 := Nat.succ_ne_zero n
theorem nM (x : Mem) : ∃ z, z = x := ⟨x, rfl⟩
theorem nE (x : Nat) : ∃ z, z = x := ⟨x, rfl⟩
theorem loE {H M : Mem} {e : Nat} (he : e = M.length) (hp : H <+: M) : H.length ≤ e := by rw [he]; exact pre_len hp
theorem neE {M : Mem} {e e2 : Nat} {x : Ent} (he : e2 = M.length) (f : M[e]? = some x) : e ≠ e2 := by rw [he]; exact Nat.ne_of_lt (lt_of_get f)
theorem nwE {M M1 : Mem} {e : Nat} {x : Ent} (hM : M1 = M ++ [x]) (he : e = M.length) : M1[e]? = some x := by rw [hM, he]; exact get_new
section
variable {P : Program} {ops : Array Oper} {o : Oper} {rest : List Oper} {fr : Frm} {H : Mem} {K : Frm → Mem → Prop} {J : Mem → Prop} {T : Bool} {B : Mem} {cs : List Nat}
theorem OD (r : AV) (H1 : Mem) (hg : agd ops fr o = some true) (h : OpS P o fr H (Det r H1)) (h2 : OpsS P ops rest (fr.put o.dst r) H1 K) : OpsS P ops (o :: rest) fr H K := OpsS_det r H1 hg h h2
theorem DD0 (r : AV) (hg : agd ops fr o = some true) (h : ∀ H0 : Mem, OpS P o fr H0 (Det r H0)) (h2 : DRun P J T ops cs rest (fr.put o.dst r) B H K) : DRun P J T ops (0 :: cs) (o :: rest) fr B H K := DRun_det0 r hg h h2
theorem DD1 (r : AV) (hg : agd ops fr o = some true) (h : ∀ H0 : Mem, B <+: H0 → OpS P o fr H0 (Det r H0)) (h2 : DRun P J T ops cs rest (fr.put o.dst r) B H K) : DRun P J T ops (1 :: cs) (o :: rest) fr B H K := DRun_det1 r hg h h2
end
section
variable {P : Program} {ops : Array Oper} {rest : List Oper} {fr : Frm} {H : Mem} {K : Frm → Mem → Prop} {dst : Option Nat} {ty : TypeId} {pos : String} {after : Array Edge} {guard : Option (Nat × Bool)}
end
end Go.Proofs.Ytafccpphghhnjaa.Am
namespace Go.Proofs.Ytafccpphghhnjaa.Am
open Go
set_option linter.unusedVariables false
def addE (k : Nat) (o : Oper) : Oper := ⟨o.dst, o.op, o.type, o.pos, (o.after.toList ++ [(⟨k, .data⟩ : Edge)]).toArray, o.guard⟩
section
variable {pre post : List Oper} {op oq : Oper}
end
theorem DStep.ops {P : Program} {J : Mem → Prop} {z : Prop} {ops ops' : Array Oper} {c : Nat} {o : Oper} {fr : Frm} {B H : Mem} {r : AV} {H' : Mem} (h : DStep P J z ops c o fr B H r H') (hg : agd ops' fr o = agd ops fr o) : DStep P J z ops' c o fr B H r H' := by
 unfold DStep at h ⊢
 rw [hg]
 exact h
theorem Trace.cons {P : Program} {J : Mem → Prop} {T : Bool} {ops : Array Oper} {o : Oper} {rest : List Oper} {c : Nat} {cls : List Nat} {fr : Frm} {B H H' : Mem} {r : AV} {F : Nat → Frm} {R : Nat → AV} {M Bs : Nat → Mem}
  (hs : DStep P J (T = true ∧ rest = []) ops c o fr B H r H') (ht : Trace P J T ops rest cls F R M Bs) (h1 : F 0 = fr.put o.dst r) (h2 : M 0 = H') (h4 : Bs 0 = if c = 2 then H' else B) :
  Trace P J T ops (o :: rest) (c :: cls) (fun i => if i = 0 then fr else F (i - 1)) (fun i => if i = 0 then r else R (i - 1)) (fun i => if i = 0 then H else M (i - 1)) (fun i => if i = 0 then B else Bs (i - 1)) := ⟨fun i o' ho => by
 cases i with
 | zero =>
  simp at ho
  subst ho
  simp only [if_true, Nat.zero_add, Nat.one_ne_zero, if_false, Nat.sub_self, h1, h2, h4]
  have hs := hs.to (z' := T = true ∧ 1 = (o :: rest).length) fun ⟨q1, q2⟩ => ⟨q1, by rw [q2]; rfl⟩
  exact ⟨by simpa using hs, trivial, by simp⟩
 | succ i =>
  simp only [List.getElem?_cons_succ] at ho
  have := ht.step i o' ho
  simp only [Nat.succ_ne_zero, if_false, Nat.add_sub_cancel]
  refine ⟨?_, this.2.1, ?_⟩
  ·have q := this.1.to (z' := T = true ∧ i + 1 + 1 = (o :: rest).length) fun ⟨q1, q2⟩ => ⟨q1, by rw [List.length_cons, q2]⟩
   simpa using q
  ·simpa using this.2.2⟩
end Go.Proofs.Ytafccpphghhnjaa.Am
namespace Go.Proofs.Ytafccpphghhnjaa.Am
open Go
theorem Reb.none1 {N : Nat} {fr : Frm} {H M : Mem} {t z : Nat} (hb : MBd H) (hp : H <+: M) (ht : fr t = .sc (.slice Option.none 0 0)) :
  Reb N H.length fr (Frm.of [(t, .hs H.length 0 0 0 z)]) M (H ++ [.cells []]) := by
 obtain ⟨tl, rfl⟩ := hp
 refine (Reb.drop (l := [(t, .sc (.slice Option.none 0 0))]) (Nat.le_refl _) hb ⟨by rw [ht]; exact .sc _, trivial⟩).trans (Reb.none ⟨?_, trivial⟩)
 simp only [Frm.of, if_true]; exact AVLt.hn _ _
end Go.Proofs.Ytafccpphghhnjaa.Am
namespace Go.Proofs.Ytafccpphghhnjaa.Am
open Go
def AV.et : AV → Option AV
 | .any => some .any
 | .sc v => some (.sc v)
 | .sl z es k => some (.sl z es k)
 | .ag cs => some (.ag cs)
 | .tp vs => some (.tp vs)
 | .pt id off => some (.pt id off)
 | .ep cs => some (.ep cs)
 | .hs id off len mc s => some (.hs id off len mc s)
 | .mp id => some (.mp id)
 | .fn f first caps => some (.fn f first caps)
theorem AV.et_some {a r : AV} (h : a.et = some r) : r = a := by cases a <;> (cases h; rfl)
def pOp (ops : Array Oper) (fr : Frm) (o : Oper) : Option AV :=
 match agd ops fr o with
 | some false => some undefA
 | some true =>
  (match o.op with
  | .move x => (aev fr x).et
  | .assign x => (aev fr x).et
  | .pick c x y => (match aev fr c with | .sc (.bool true) => (aev fr x).et | .sc (.bool false) => (aev fr y).et | _ => none)
  | .binOp op _ x y _ => (match op with
   | .shl => none
   | .shr => none
   | op => (match aev fr x, aev fr y with | .sc (.int k a), .sc (.int k' b) => if k = k' then (match intBin op k a b with | some v => some (.sc v) | none => none) else none | _, _ => none))
  | .unOp op _ x => (match aUn op (aev fr x) with | some v => some (.sc v) | none => none)
  | .extract x i => (match aev fr x with | .tp vs => (match vs[i]? with | some a => a.et | none => none) | _ => none)
  | _ => none)
 | none => none
theorem pOp_some {P : Program} {ops : Array Oper} {fr : Frm} {o : Oper} {r : AV} (h : pOp ops fr o = some r) : (agd ops fr o = some false ∧ r = undefA) ∨ (agd ops fr o = some true ∧ ∀ H, OpS P o fr H (Det r H)) := by
 obtain ⟨dst, op, ty, pos, after, guard⟩ := o
 unfold pOp at h
 split at h
 ·rename_i hg
  cases h
  exact .inl ⟨hg, rfl⟩
 ·rename_i hg
  refine .inr ⟨hg, fun H => ?_⟩
  simp only at h
  split at h
  ·obtain rfl := AV.et_some h; exact o_move (.refl _)
  ·obtain rfl := AV.et_some h; exact o_assign (.refl _)
  ·split at h
   ·rename_i hc; obtain rfl := AV.et_some h; exact o_pick (b := true) hc (.refl _)
   ·rename_i hc; obtain rfl := AV.et_some h; exact o_pick (b := false) hc (.refl _)
   ·cases h
  ·split at h
   ·cases h
   ·cases h
   ·rename_i h1 h2
    split at h
    ·rename_i hx hy
     split at h
     ·rename_i e
      subst e
      split at h
      ·rename_i hv; cases h
       exact o_int hx hy (by split <;> first | rfl | (exact absurd rfl h1) | (exact absurd rfl h2)) hv
      ·cases h
     ·cases h
    ·cases h
  ·split at h
   ·rename_i hv; cases h; exact opS_unOp hv ⟨.refl _, rfl⟩
   ·cases h
  ·split at h
   ·rename_i hx
    split at h
    ·rename_i ha; obtain rfl := AV.et_some h; exact o_extract hx ha
    ·cases h
   ·cases h
  ·cases h
 ·cases h
def pRun (ops : Array Oper) : Nat → List Oper → Frm → Option (List Oper × Frm)
 | 0, l, fr => some (l, fr)
 | _ + 1, [], _ => none
 | n + 1, o :: l, fr => match pOp ops fr o with | some r => pRun ops n l (fr.put o.dst r) | none => none
def pRunD (ops : Array Oper) : Nat → List Nat → List Oper → Frm → Option (List Nat × List Oper × Frm)
 | 0, cs, l, fr => some (cs, l, fr)
 | n + 1, c :: cs, o :: l, fr =>
  (match agd ops fr o with
  | some false => if c = 2 then none else pRunD ops n cs l (fr.put o.dst undefA)
  | _ => if c = 0 then (match pOp ops fr o with | some r => pRunD ops n cs l (fr.put o.dst r) | none => none) else none)
 | _ + 1, _, _, _ => none
section
variable {P : Program} {ops : Array Oper} {H B : Mem} {K : Frm → Mem → Prop} {J : Mem → Prop} {T : Bool}
theorem OR (n : Nat) : ∀ {l l' : List Oper} {fr fr' : Frm}, pRun ops n l fr = some (l', fr') → OpsS P ops l' fr' H K → OpsS P ops l fr H K := by
 induction n with
 | zero => intro l l' fr fr' h h2; cases h; exact h2
 | succ n ih =>
  intro l l' fr fr' h h2
  cases l with
  | nil => cases h
  | cons o l =>
   simp only [pRun] at h
   split at h
   ·rename_i r hr
    rcases pOp_some (P := P) hr with ⟨hg, rfl⟩ | ⟨hg, ho⟩
    ·exact OpsS_skip hg (ih h h2)
    ·exact OpsS_det r H hg (ho H) (ih h h2)
   ·cases h
theorem DR (n : Nat) : ∀ {cs cs' : List Nat} {l l' : List Oper} {fr fr' : Frm}, pRunD ops n cs l fr = some (cs', l', fr') → DRun P J T ops cs' l' fr' B H K → DRun P J T ops cs l fr B H K := by
 induction n with
 | zero => intro cs cs' l l' fr fr' h h2; cases h; exact h2
 | succ n ih =>
  intro cs cs' l l' fr fr' h h2
  unfold pRunD at h
  split at h
  ·rename_i e; cases e
  ·rename_i c cs2 o l2 fr2 en
   cases en
   split at h
   ·rename_i hg
    split at h
    ·cases h
    ·rename_i hc; exact DRun_skipN hc hg (ih h h2)
   ·split at h
    ·rename_i hc
     subst hc
     split at h
     ·rename_i r hr
      rcases pOp_some (P := P) hr with ⟨hg, rfl⟩ | ⟨hg, ho⟩
      ·exact DRun_skipN (by decide) hg (ih h h2)
      ·exact DRun_det0 r hg ho (ih h h2)
     ·cases h
    ·cases h
  ·cases h
end
end Go.Proofs.Ytafccpphghhnjaa.Am
namespace Go.Proofs.Ytafccpphghhnjaa.Am
open Go
section
variable {P : Program} {N n0 : Nat} {ops : Array Oper} {o : Oper} {rest : List Oper} {fr : Frm} {H B : Mem} {K : Frm → Mem → Prop} {Q : Exit → Frm → Mem → Prop} {J : Mem → Prop} {T : Bool} {cs : List Nat} {α : Type} {u v z : Option α} {b : Bool}
theorem aT {c : Operand} {x y : Code} (h : (if b = true then u else v) = z) (hc : aev fr c = .sc (.bool b)) (h1 : b = true → u = z → aw P N n0 x fr H Q) (h2 : b = false → v = z → aw P N n0 y fr H Q) : aw P N n0 (.cond c x y) fr H Q :=
 aw_test hc (fun e => h1 e (ite_t e h)) (fun e => h2 e (ite_f e h))
theorem oT (h : (if b = true then u else v) = z) (hg : agd ops fr o = some true) (ho : OpS P o fr H (Det (.sc (.bool b)) H)) (h1 : b = true → u = z → OpsS P ops rest (fr.put o.dst (.sc (.bool true))) H K)
  (h2 : b = false → v = z → OpsS P ops rest (fr.put o.dst (.sc (.bool false))) H K) : OpsS P ops (o :: rest) fr H K := OpsS_test hg ho (fun e => h1 e (ite_t e h)) (fun e => h2 e (ite_f e h))
theorem dT0 (h : (if b = true then u else v) = z) (hg : agd ops fr o = some true) (ho : ∀ H0 : Mem, OpS P o fr H0 (Det (.sc (.bool b)) H0)) (h1 : b = true → u = z → DRun P J T ops cs rest (fr.put o.dst (.sc (.bool true))) B H K)
  (h2 : b = false → v = z → DRun P J T ops cs rest (fr.put o.dst (.sc (.bool false))) B H K) : DRun P J T ops (0 :: cs) (o :: rest) fr B H K := DRun_test0 hg ho (fun e => h1 e (ite_t e h)) (fun e => h2 e (ite_f e h))
theorem bs {β : Type} {o : Option α} {f : α → Option β} {b : β} (h : o.bind f = some b) : ∃ a, o = some a ∧ f a = some b := bind_some h
theorem sr {id : Nat} {l : List Oper} {y : Code} (hlt : dstsLt l N = true) (h : OpsS P l.toArray l fr H fun fr H => thenQ (fun fr H => aw P N n0 y fr H Q) Q .normal fr H) : aw P N n0 (.seq (.region id l.toArray false) y) fr H Q := aw_seq (aw_region hlt h)
theorem nt (h : K fr H) : OpsS P ops [] fr H fun fr H => thenQ K Q .normal fr H := h
end
theorem flr {N n0 : Nat} {fr : Frm} {H : Mem} {l : List (Nat × AV)} (h : (l.map fun p => fr p.1) = l.map (·.2)) : Reb N n0 fr (Frm.of l) H H := Reb.fl (by
 induction l with
 | nil => trivial
 | cons p r ih =>
  simp only [List.map_cons, List.cons.injEq] at h
  exact ⟨by rw [h.1]; exact .refl _, ih h.2⟩)
end Go.Proofs.Ytafccpphghhnjaa.Am
namespace Go.Proofs.Ytafccpphghhnjaa.Am
open Go
set_option linter.unusedVariables false
section
variable {n : Nat} {σ : List Nat} {tx : List (Nat × List Nat)} {C : List Nat}
end
theorem Trace.pre {P : Program} {J : Mem → Prop} {ops : Array Oper} {K : Frm → Mem → Prop} : ∀ {pre : List Oper} {c : List Nat} {fr : Frm} {B H : Mem}, c.length = pre.length → (∀ i, i < pre.length → c.getD i 0 ≠ 2) →
  DRun P J false ops c pre fr B H K → ∃ (fr' : Frm) (H' : Mem) (R0 : Nat → AV) (M0 : Nat → Mem), K fr' H' ∧ ∀ (opsA : Array Oper) (suf : List Oper) (cA : List Nat) (FA : Nat → Frm) (RA : Nat → AV) (MA BA : Nat → Mem), (∀ o ∈ pre, ∀ fr, agd opsA fr o = agd ops fr o) →
   Trace P J false opsA suf cA FA RA MA BA → FA 0 = fr' → MA 0 = H' → BA 0 = B → ∃ F R M Bs, Trace P J false opsA (pre ++ suf) (c ++ cA) F R M Bs ∧ F 0 = fr ∧ M 0 = H ∧ Bs 0 = B ∧ (∀ i, i < pre.length → R i = R0 i) ∧ (∀ i, i ≤ pre.length → M i = M0 i) ∧
    (∀ j, F (pre.length + j) = FA j) ∧ (∀ j, R (pre.length + j) = RA j) ∧ ∀ j, M (pre.length + j) = MA j
 | [], [], fr, B, H, _, _, h => ⟨fr, H, fun _ => .any, fun _ => H, h, fun opsA suf cA FA RA MA BA _ ht h1 h2 h3 => ⟨FA, RA, MA, BA, ht, h1, h2, h3, fun i hi => absurd hi (Nat.not_lt_zero _), fun i hi => by
   have : i = 0 := Nat.le_zero.1 hi
   subst this; exact h2, fun j => by simp, fun j => by simp, fun j => by simp⟩⟩
 | [], _ :: _, _, _, _, hc, _, _ => by cases hc
 | _ :: _, [], _, _, _, hc, _, _ => by cases hc
 | o :: pre, c0 :: c, fr, B, H, hc, h2, h => by
  obtain ⟨r, H', hs, hr⟩ := h
  have hc0 : c0 ≠ 2 := h2 0 (by simp)
  rw [show (if (c0 :: c).headD 0 = 2 then H' else B) = B from if_neg hc0] at hr
  simp only [List.headD_cons, List.tail_cons] at hs hr
  obtain ⟨fr', H2, R0, M0, hK, hT⟩ := Trace.pre (by simpa using hc) (fun i hi => by simpa using h2 (i + 1) (by simp; omega)) hr
  refine ⟨fr', H2, fun i => if i = 0 then r else R0 (i - 1), fun i => if i = 0 then H else M0 (i - 1), hK, fun opsA suf cA FA RA MA BA hg ht q1 q2 q3 => ?_⟩
  obtain ⟨F, R, M, Bs, t, a1, a2, a3, a4, a5, a6, a7, a8⟩ := hT opsA suf cA FA RA MA BA (fun o ho => hg o (List.mem_cons_of_mem _ ho)) ht q1 q2 q3
  have sA := (hs.ops (hg o (List.mem_cons_self ..) fr)).to (z' := false = true ∧ pre ++ suf = []) fun q => by cases q.1
  refine ⟨_, _, _, _, Trace.cons sA t a1 a2 (by rw [if_neg hc0]; exact a3), rfl, rfl, rfl, fun i hi => ?_, fun i hi => ?_, fun j => ?_, fun j => ?_, fun j => ?_⟩
  ·cases i with
   | zero => rfl
   | succ i => simpa using a4 i (by simpa using hi)
  ·cases i with
   | zero => rfl
   | succ i => simpa using a5 i (by simpa using hi)
  ·have := a6 j
   rw [show (o :: pre).length + j = pre.length + j + 1 by simp; omega]
   simpa using this
  ·have := a7 j
   rw [show (o :: pre).length + j = pre.length + j + 1 by simp; omega]
   simpa using this
  ·have := a8 j
   rw [show (o :: pre).length + j = pre.length + j + 1 by simp; omega]
   simpa using this
end Go.Proofs.Ytafccpphghhnjaa.Am
namespace Go.Proofs.Ytafccpphghhnjaa.Am
open Go
theorem ti3 : tinf Try.prog 3 = some (1, 8, some (.int .i64 0)) := by kernel_rfl
theorem ag3 : aggT Try.prog 3 = some false := by kernel_rfl
theorem ti22 : tinf Try.prog 22 = some (1, 24, some (.slice none 0 0)) := by kernel_rfl
theorem ag22 : aggT Try.prog 22 = some false := by kernel_rfl
theorem ti25 : tinf Try.prog 25 = some (2, 48, some (.agg #[(.slice none 0 0), (.slice none 0 0)])) := by kernel_rfl
theorem ag25 : aggT Try.prog 25 = some true := by kernel_rfl
theorem cl3 : callable Try.prog 3 = true := by kernel_rfl
theorem cl4 : callable Try.prog 4 = true := by kernel_rfl
theorem cl5 : callable Try.prog 5 = true := by kernel_rfl
theorem cl6 : callable Try.prog 6 = true := by kernel_rfl
theorem cl7 : callable Try.prog 7 = true := by kernel_rfl
theorem cl8 : callable Try.prog 8 = true := by kernel_rfl
theorem cl9 : callable Try.prog 9 = true := by kernel_rfl
theorem cl10 : callable Try.prog 10 = true := by kernel_rfl
theorem cl11 : callable Try.prog 11 = true := by kernel_rfl
theorem cl12 : callable Try.prog 12 = true := by kernel_rfl
theorem cl13 : callable Try.prog 13 = true := by kernel_rfl
theorem cl14 : callable Try.prog 14 = true := by kernel_rfl
theorem cl15 : callable Try.prog 15 = true := by kernel_rfl
theorem cl16 : callable Try.prog 16 = true := by kernel_rfl
theorem cl17 : callable Try.prog 17 = true := by kernel_rfl
theorem cl18 : callable Try.prog 18 = true := by kernel_rfl
theorem cl19 : callable Try.prog 19 = true := by kernel_rfl
theorem cl20 : callable Try.prog 20 = true := by kernel_rfl
theorem cl21 : callable Try.prog 21 = true := by kernel_rfl
theorem cl22 : callable Try.prog 22 = true := by kernel_rfl
theorem cl23 : callable Try.prog 23 = true := by kernel_rfl
theorem cl24 : callable Try.prog 24 = true := by kernel_rfl
theorem cl25 : callable Try.prog 25 = true := by kernel_rfl
theorem cl27 : callable Try.prog 27 = true := by kernel_rfl
theorem cl28 : callable Try.prog 28 = true := by kernel_rfl
theorem cl29 : callable Try.prog 29 = true := by kernel_rfl
theorem cl30 : callable Try.prog 30 = true := by kernel_rfl
theorem mixed : Try.prog.follows .mixedOrders = true := by kernel_rfl
theorem U3 : type_of% Try.underlying3 := Try.underlying3
theorem U4 : type_of% Try.underlying4 := Try.underlying4
theorem U5 : type_of% Try.underlying5 := Try.underlying5
theorem U22 : type_of% Try.underlying22 := Try.underlying22
theorem U25 : type_of% Try.underlying25 := Try.underlying25
theorem U27 : type_of% Try.underlying27 := Try.underlying27
end Go.Proofs.Ytafccpphghhnjaa.Am
namespace Go.Proofs.Ytafccpphghhnjaa.Am
open Go Go.RowKit
set_option linter.unusedVariables false
theorem MR.below {g : Gh} {H : Mem} {w w' : World} (hm : MR g H w) (hb : Below w.heap.size w w') : MR g H w' ∧ Ev H.length g w g w' :=
  ⟨⟨fun b o v hv => (cell_of (w := w) (w' := w') (a := ⟨b, o, none⟩) (hb.block b (hm.ro_lt hv))).trans (hm.ro b o v hv),
    fun id e he => (hm.ent id e he).keep (lt_of_get he) (.refl _ _) (Nat.le_refl _) fun b ho => ⟨ho, fun _ => rfl, hb.block b (hm.ow b id ho).1⟩,
    fun b id ho => ⟨Nat.lt_of_lt_of_le (hm.ow b id ho).1 hb.size, (hm.ow b id ho).2⟩⟩,
   ⟨.refl _ _, fun b hbl ho => ⟨ho, hb.block b hbl⟩, hb.size, hb.os, hb.tape, hb.output⟩⟩
def Ints (n₀ : Nat) (W : World) (sv : Value) (zs : List Int) : Prop :=
  (zs = [] ∧ ∃ a cap, sv = .slice a 0 cap) ∨ ∃ b off cap, sv = .slice (some ⟨b, off, none⟩) zs.length cap ∧ b < n₀ ∧ ∀ j, j < zs.length → W.cell? ⟨b, off + j, none⟩ = some (.int .i64 (zs[j]?.getD 0))
theorem Ints.below {n₀ : Nat} {A B : World} (h : Below n₀ A B) {sv : Value} {zs : List Int} : Ints n₀ A sv zs → Ints n₀ B sv zs
  | .inl e => .inl e
  | .inr ⟨b, off, cap, e, hb, hc⟩ => .inr ⟨b, off, cap, e, hb, fun j hj => (h.cell (p := ⟨b, off + j, none⟩) hb).trans (hc j hj)⟩
theorem Ints.le {n₀ n₁ : Nat} {A : World} {sv : Value} {zs : List Int} (hn : n₀ ≤ n₁) : Ints n₀ A sv zs → Ints n₁ A sv zs
  | .inl e => .inl e
  | .inr ⟨b, off, cap, e, hb, hc⟩ => .inr ⟨b, off, cap, e, Nat.lt_of_lt_of_le hb hn, hc⟩
theorem Ints.slice {n₀ : Nat} {A : World} {sv : Value} {zs : List Int} (h : Ints n₀ A sv zs) : ∃ a cap, sv = .slice a zs.length cap := by
  rcases h with ⟨rfl, a, cap, e⟩ | ⟨b, off, cap, e, _⟩
  · exact ⟨a, cap, e⟩
  · exact ⟨_, cap, e⟩
theorem flat_i64 (zs : List Int) : (zs.map c_i64).flatten = zs.map fun x => PV.sc (.int .i64 x) := by
  induction zs with
  | nil => rfl
  | cons x l ih => rw [List.map_cons, List.flatten_cons, ih]; rfl
theorem PR_i64 {ro : Nat → Nat → Option Value} {u v : Value} (h : PR ro (.sc u) v) : v = u := by cases h; rfl
theorem Ints.of_VR {g : Gh} {H : Mem} {w : World} {zs : List Int} {k : Tk} {v : Value} (hm : MR g H w) (h : VR g H.length (.sl 1 (zs.map c_i64) k) v) : Ints w.heap.size w v zs := by
  generalize he : zs.map c_i64 = es at h
  cases h with
  | nil z k hk => exact .inl ⟨by simpa using he, none, 0, rfl⟩
  | sl z es k a cap f hsp hcap hz hrow hk =>
    have hl : es.length = zs.length := by rw [← he]; simp
    by_cases h0 : zs = []
    · subst h0; exact .inl ⟨rfl, some a, cap, by rw [hl]; rfl⟩
    · have hp : 0 < zs.length := List.length_pos_iff.2 h0
      have hs : a.spot = none := hsp.resolve_left (by omega)
      obtain ⟨b, o, s⟩ := a
      simp only at hs
      subst hs
      have hcell : ∀ j, j < zs.length → g.ro b (o + j) = some (.int .i64 (zs[j]?.getD 0)) := fun j hj => by
        have q := hrow j (.sc (.int .i64 (zs[j]?.getD 0))) (by rw [← he, flat_i64]; simp [hj])
        rw [PR_i64 q.2] at q
        exact q.1
      exact .inr ⟨b, o, cap, by rw [hl], hm.ro_lt (hcell 0 hp), fun j hj => hm.ro _ _ _ (hcell j hj)⟩
end Go.Proofs.Ytafccpphghhnjaa.Am
namespace Go.Proofs.Ytafccpphghhnjaa.Am
open Go Go.RowKit Go.Sort
set_option linter.unusedVariables false
theorem cells_i64 (l : List Int) (j : Nat) : ((l.map c_i64).flatten.map PV.av)[j]? = (l[j]?).map fun x => AV.sc (.int .i64 x) := by
 rw [flat_i64]; simp [List.getElem?_map, PV.av, Function.comp_def]
theorem len_i64 (l : List Int) : ((l.map c_i64).flatten.map PV.av).length = l.length := by rw [flat_i64]; simp
theorem MR.holds {g : Gh} {H : Mem} {w : World} {id : Nat} {zs : List Int} (hm : MR g H w) (hid : H[id]? = some (.cells ((zs.map c_i64).flatten.map PV.av))) (hne : zs ≠ []) :
  Holds (Value.int .i64) w (g.mu id).b (g.mu id).o zs.toArray ∧ (g.mu id).b < w.heap.size := by
 have hne0 : ((zs.map c_i64).flatten.map PV.av) ≠ [] := fun h => hne (List.eq_nil_of_length_eq_zero (by rw [← len_i64, h]; rfl))
 obtain ⟨h1, h2, h3, h4, h5⟩ := (hm.ent id _ hid).resolve_left fun h => hne0 h.1
 obtain ⟨c, e, fr, k1, k2, k3⟩ := h2
 rw [len_i64] at h3
 refine ⟨fun j hj => ?_, (hm.ow _ _ h1).1⟩
 have hj : j < zs.length := by simpa using hj
 obtain ⟨v, hv, hr⟩ := h5 j (.sc (.int .i64 zs[j])) (by rw [cells_i64, List.getElem?_eq_getElem hj]; rfl)
 cases hr
 refine ⟨?_, ?_⟩
 ·rw [hv]; simp [hj]
 ·unfold World.frozen?
  simp only [k1]
  have := k3 ((g.mu id).o + j) (by omega)
  simpa using this
theorem MR.sorted {g : Gh} {H : Mem} {w : World} {id : Nat} {zs m : List Int} {n : Nat} {os : Array Obj} (hm : MR g H w) (hid : H[id]? = some (.cells ((zs.map c_i64).flatten.map PV.av))) (hne : zs ≠ []) (hl : m.length = zs.length) :
  MR g (H.set id (.cells ((m.map c_i64).flatten.map PV.av))) (grow (putRow (Value.int .i64) (Sort.ahead w n) (g.mu id).b (g.mu id).o m.toArray) os) ∧ Ev H.length g w g (grow (putRow (Value.int .i64) (Sort.ahead w n) (g.mu id).b (g.mu id).o m.toArray) os) := by
 have hne0 : ((zs.map c_i64).flatten.map PV.av) ≠ [] := fun h => hne (List.eq_nil_of_length_eq_zero (by rw [← len_i64, h]; rfl))
 obtain ⟨h1, ⟨c, e, fr, k1, k2, k3⟩, h3, h4, h5⟩ := (hm.ent id _ hid).resolve_left fun h => hne0 h.1
 rw [len_i64] at h3
 have hlt := (hm.ow _ _ h1).1
 obtain ⟨w1, hw1⟩ : ∃ w1, putRow (Value.int .i64) (Sort.ahead w n) (g.mu id).b (g.mu id).o m.toArray = w1 := ⟨_, rfl⟩
 have hu : Upd w w1 (g.mu id).b (.cells (putCells (Value.int .i64) (g.mu id).o m.toArray c) e fr) := by
  rw [← hw1]
  refine ⟨?_, rfl, rfl, rfl⟩
  show w.heap.modify (g.mu id).b (onCells (putCells (Value.int .i64) (g.mu id).o m.toArray)) = _
  apply Array.ext_getElem?
  intro k
  rw [Array.getElem?_modify, Array.getElem?_setIfInBounds]
  by_cases hk : (g.mu id).b = k
  ·subst hk
   rw [if_pos rfl, if_pos rfl, if_pos hlt, k1]; rfl
  ·rw [if_neg hk, if_neg hk]
 obtain ⟨q1, q2⟩ := hm.put (cs' := (m.map c_i64).flatten.map PV.av) hid hne0 k1 hu (by simp [putCells]) (by rw [len_i64, len_i64, hl]) fun k a ha => by
  rw [cells_i64] at ha
  cases hx : m[k]? with
  | none => rw [hx] at ha; cases ha
  | some x =>
   rw [hx] at ha; cases ha
   have hk : k < m.length := (List.getElem?_eq_some_iff.1 hx).1
   refine ⟨.int .i64 x, ?_, .sc _⟩
   have hkc : (g.mu id).o + k < c.size := by omega
   have hx2 : m[k] = x := (List.getElem?_eq_some_iff.1 hx).2
   simp [putCells, Array.getElem?_mapIdx, hkc, hk, hx2]
 rw [hw1]
 have hb : Below w1.heap.size w1 (grow w1 os) := ⟨rfl, rfl, rfl, by simp [grow], fun k hk => by simp [grow, Array.getElem?_append, hk]⟩
 obtain ⟨p1, p2⟩ := q1.below hb
 exact ⟨p1, q2.trans (by simpa using p2) (Nat.le_refl _)⟩
end Go.Proofs.Ytafccpphghhnjaa.Am
namespace Go.Proofs.Ytafccpphghhnjaa.Am
open Go
def slices_Sort_Lint_int (x : List Int) : Option (List Int) := if x.length < 4611686018427387904 then some (x.mergeSort fun a b => decide (a ≤ b)) else none
end Go.Proofs.Ytafccpphghhnjaa.Am
namespace Go.Proofs
open Go.Shelf
def Try.lays189_ren : Go.Shelf.Ren := ⟨fun | 189 => 26 | 125 => 32 | 257 => 31 | 128 => 42 | 129 => 43 | 294 => 33 | 295 => 34 | 296 => 35 | 297 => 36 | 298 => 37 | 299 => 38 | 216 => 39 | 300 => 40 | 301 => 41 | 328 => 44 | 329 => 45 | 330 => 46 | 331 => 47 | 332 => 48 | 215 => 49 | 343 => 50 | n => n, fun | 28 => 22 | 3 => 3 | 46 => 41 | 0 => 0 | 51 => 52 | 53 => 54 | 4 => 4 | 183 => 44 | 182 => 43 | 131 => 49 | 5 => 5 | 9 => 9 | 218 => 55 | 222 => 59 | 228 => 61 | 229 => 62 | n => n, fun n => n⟩
theorem Try.lays189 : Lays.n189 Try.prog Try.lays189_ren where
 mixed := by kernel_rfl
 f125 := Try.func32.trans (congrArg some (by kernel_rfl))
 f128 := Try.func42.trans (congrArg some (by kernel_rfl))
 f129 := Try.func43.trans (congrArg some (by kernel_rfl))
 f189 := Try.func26.trans (congrArg some (by kernel_rfl))
 f215 := Try.func49.trans (congrArg some (by kernel_rfl))
 f216 := Try.func39.trans (congrArg some (by kernel_rfl))
 f257 := Try.func31.trans (congrArg some (by kernel_rfl))
 f294 := Try.func33.trans (congrArg some (by kernel_rfl))
 f295 := Try.func34.trans (congrArg some (by kernel_rfl))
 f296 := Try.func35.trans (congrArg some (by kernel_rfl))
 f297 := Try.func36.trans (congrArg some (by kernel_rfl))
 f298 := Try.func37.trans (congrArg some (by kernel_rfl))
 f299 := Try.func38.trans (congrArg some (by kernel_rfl))
 f300 := Try.func40.trans (congrArg some (by kernel_rfl))
 f301 := Try.func41.trans (congrArg some (by kernel_rfl))
 f328 := Try.func44.trans (congrArg some (by kernel_rfl))
 f329 := Try.func45.trans (congrArg some (by kernel_rfl))
 f330 := Try.func46.trans (congrArg some (by kernel_rfl))
 f331 := Try.func47.trans (congrArg some (by kernel_rfl))
 f332 := Try.func48.trans (congrArg some (by kernel_rfl))
 f343 := Try.func50.trans (congrArg some (by kernel_rfl))
 t0 := Try.underlying0
 a0 := Try.isAgg0
 z0 := Try.sizeOf0
 v0 := Try.zeroValue0
 t3 := Try.underlying3
 a3 := Try.isAgg3
 z3 := Try.sizeOf3
 v3 := Try.zeroValue3
 t4 := Try.underlying4
 a4 := Try.isAgg4
 z4 := Try.sizeOf4
 v4 := Try.zeroValue4
 t5 := Try.underlying5
 a5 := Try.isAgg5
 z5 := Try.sizeOf5
 v5 := Try.zeroValue5
 t9 := Try.underlying9
 a9 := Try.isAgg9
 z9 := Try.sizeOf9
 v9 := Try.zeroValue9
 t28 := Try.underlying22
 a28 := Try.isAgg22
 z28 := Try.sizeOf22
 v28 := Try.zeroValue22
 t46 := Try.underlying41
 a46 := Try.isAgg41
 z46 := Try.sizeOf41
 v46 := Try.zeroValue41
 t51 := Try.underlying52
 a51 := Try.isAgg52
 z51 := Try.sizeOf52
 v51 := Try.zeroValue52
 t53 := Try.underlying54
 a53 := Try.isAgg54
 z53 := Try.sizeOf54
 v53 := Try.zeroValue54
 t131 := Try.underlying49
 a131 := Try.isAgg49
 z131 := Try.sizeOf49
 v131 := Try.zeroValue49
 t182 := Try.underlying43
 a182 := Try.isAgg43
 z182 := Try.sizeOf43
 v182 := Try.zeroValue43
 t183 := Try.underlying44
 a183 := Try.isAgg44
 z183 := Try.sizeOf44
 v183 := Try.zeroValue44
 t218 := Try.underlying55
 a218 := Try.isAgg55
 z218 := Try.sizeOf55
 v218 := Try.zeroValue55
 t222 := Try.underlying59
 a222 := Try.isAgg59
 z222 := Try.sizeOf59
 v222 := Try.zeroValue59
 t228 := Try.underlying61
 a228 := Try.isAgg61
 z228 := Try.sizeOf61
 v228 := Try.zeroValue61
 t229 := Try.underlying62
 a229 := Try.isAgg62
 z229 := Try.sizeOf62
 v229 := Try.zeroValue62
end Go.Proofs
namespace Go.Proofs.Ytafccpphghhnjaa.Am
open Go Go.RowKit Go.Sort Go.Shelf
set_option linter.unusedVariables false
theorem w_slices_Sort_Lint_int (px : Nat) (x : List Int) (H : Mem) {r : List Int} (h : slices_Sort_Lint_int x = some r) (fpx0 : H[px]? = some (.cells ((x.map c_i64).flatten.map PV.av))) :
  ACalls Try.prog 26 [.hs px 0 x.length x.length 1] H (fun r' H' => r' = .tp [] ∧ H' = H.set px (.cells ((r.map c_i64).flatten.map PV.av))) := by
 unfold slices_Sort_Lint_int at h
 by_cases hl : x.length < 4611686018427387904
 case neg => rw [if_neg hl] at h; cases h
 rw [if_pos hl] at h
 cases h
 refine ⟨by kernel_rfl, fun g w vals hm hs hv => ?_⟩
 have hv0 := hv 0 _ rfl
 obtain ⟨v, rfl⟩ : ∃ v, vals = #[v] := by
  obtain ⟨l⟩ := vals
  match l, hs with
  | [v], _ => exact ⟨v, rfl⟩
 have hv0 : VR g H.length (.hs px 0 x.length x.length 1) v := hv0
 have ht : ∀ n, VR g n (.tp []) (.tuple #[]) := fun n => .tp [] #[] rfl (fun i c hc => by simp at hc)
 generalize hn : x.length = n at hv0
 by_cases hx : x = []
 ·subst hx
  have hn0 : n = 0 := by simpa using hn.symm
  subst hn0
  have hvs : ∃ p cap, v = .slice p 0 cap := by
   cases hv0 with
   | hs id off len mc s cap _ _ _ _ => exact ⟨_, cap, rfl⟩
   | hn id off s a _ => exact ⟨a, 0, rfl⟩
  obtain ⟨p, cap, rfl⟩ := hvs
  refine (Any.slices_Sort_int_none Try.lays189 p cap w).mono fun e w' ⟨he, hw⟩ => ?_
  subst hw
  have hm2 : H.set px (.cells (((List.mergeSort ([] : List Int) fun a b => decide (a ≤ b)).map c_i64).flatten.map PV.av)) = H := mem_same (by simpa using fpx0)
  refine ⟨_, he, .tp [], H, g, ⟨rfl, hm2.symm⟩, ht _, hm, ⟨.refl _ _, fun b _ h => ⟨h, rfl⟩, Nat.le_refl _, rfl, rfl, rfl⟩, Nat.le_refl _⟩
 ·have hvs : ∃ cap, v = .slice (some ⟨(g.mu px).b, (g.mu px).o, none⟩) n cap := by
   cases hv0 with
   | hs id off len mc s cap _ _ _ _ => exact ⟨cap, rfl⟩
   | hn id off s a _ => exact absurd (List.eq_nil_of_length_eq_zero hn) hx
  obtain ⟨cap, rfl⟩ := hvs
  obtain ⟨hH, hb⟩ := hm.holds fpx0 hx
  subst hn
  refine (Any.slices_Sort_int Try.lays189 (g.mu px).b (g.mu px).o cap x w hH hb hl).mono fun e w' ⟨he, n, os, hw⟩ => ?_
  subst hw
  obtain ⟨q1, q2⟩ := hm.sorted (n := n) (os := os) fpx0 hx (m := x.mergeSort fun a b => decide (a ≤ b)) (by simp)
  exact ⟨_, he, .tp [], _, g, ⟨rfl, rfl⟩, ht _, q1, q2, by simp⟩
end Go.Proofs.Ytafccpphghhnjaa.Am
namespace Go.Proofs.Ytafccpphghhnjaa.Am
open Go
set_option linter.unusedVariables false
set_option maxRecDepth 10000
structure A2_int where
 f0 : (List Int)
 f1 : (List Int)
deriving Inhabited
def c_A2_int (x : A2_int) : List PV := [.sl 1 (x.f0.map c_i64), .sl 1 (x.f1.map c_i64)]
def slices_Clone_Lint_int (vs : (List Int)) : Option (List Int) :=
 ((app 8 ([] : (List Int)) vs).bind fun m => (some m))
def slices_IndexFunc_Lint_int_own0_L1 (vs : (List Int)) (f : (Int → Option Bool)) : Int → Option (Ctl (Ctl Int Unit) Int)
 | t810 => (if (decide (t810 < (vs.length : Int))) then ((idx vs t810).bind fun x => ((f x).bind fun y => (if y then (early (early (some t810))) else (some (.go (IntKind.wrap .i64 (t810 + 1))))))) else (early (some (.go ()))))
def slices_IndexFunc_Lint_int_own0 (vs : (List Int)) (f : (Int → Option Bool)) : Option Int :=
 (kont (loopN (slices_IndexFunc_Lint_int_own0_L1 vs f) fuel 0) fun () => (some (-1)))
def slices_DeleteFunc_Lint_int_L1 (vs : (List Int)) (del : (Int → Option Bool)) : (Int × Int × (List Int)) → Option (Ctl (Int × (List Int)) (Int × Int × (List Int)))
 | (i11, j12, mpvs13) => (if (decide (j12 < (vs.length : Int))) then (((idx mpvs13 j12).bind fun x => ((del x).bind fun y29 => (if (!y29) then ((idx mpvs13 i11).bind fun x31 => ((updL mpvs13 i11 x).bind fun m => (some ((IntKind.wrap .i64 (i11 + 1)), m)))) else (some (i11, mpvs13))))).bind fun (i21, mpvs22) => (some (.go (i21, (IntKind.wrap .i64 (j12 + 1)), mpvs22)))) else (early (some (i11, mpvs13))))
def slices_DeleteFunc_Lint_int (vs : (List Int)) (del : (Int → Option Bool)) : Option (List Int) :=
 ((slices_IndexFunc_Lint_int_own0 vs del).bind fun y => (if (y == (-1)) then (some vs) else ((loopN (slices_DeleteFunc_Lint_int_L1 vs del) fuel (y, (IntKind.wrap .i64 (y + 1)), vs)).bind fun (i, mpvs) => ((slcH vs.length i ((vs.length : Nat) : Int)).bind fun (o, k36) => ((slcH vs.length 0 i).bind fun (o42, k43) => (some ((fillL mpvs o k36 0).take k43)))))))
def conf_may (n : Int) : Option Bool :=
 ((if (decide (n ≥ 0)) then (some (decide (n < 7))) else (some false)).bind fun t2 => (some t2))
def conf_Of_1 (n : Int) : Option Bool :=
 ((conf_may n).bind fun y => (some (!y)))
def slices_Compact_Lint_int_L2 (o : Nat) (k20 : Nat) : (Int × Int × (List Int)) → Option (Ctl (Int × (List Int)) (Int × Int × (List Int)))
 | (k38, k239, mpvs40) => (if (decide (k239 < (k20 : Int))) then (((idxP mpvs40 o k20 k239).bind fun x56 => ((idxP mpvs40 o k20 (IntKind.wrap .i64 (k239 - 1))).bind fun x57 => (if (x56 != x57) then ((idx mpvs40 k38).bind fun x61 => ((updL mpvs40 k38 x56).bind fun m => (some ((IntKind.wrap .i64 (k38 + 1)), m)))) else (some (k38, mpvs40))))).bind fun (k48, mpvs49) => (some (.go (k48, (IntKind.wrap .i64 (k239 + 1)), mpvs49)))) else (early (some (k38, mpvs40))))
def slices_Compact_Lint_int_L1 (vs : (List Int)) : Int → Option (Ctl (Ctl (List Int) Unit) Int)
 | k10 => (if (decide (k10 < (vs.length : Int))) then ((idx vs k10).bind fun x => ((idx vs (IntKind.wrap .i64 (k10 - 1))).bind fun x18 => (if (x == x18) then ((slcH vs.length k10 ((vs.length : Nat) : Int)).bind fun (o, k20) => ((loopN (slices_Compact_Lint_int_L2 o k20) fuel (k10, 1, vs)).bind fun (k21, mpvs) => ((slcH vs.length k21 ((vs.length : Nat) : Int)).bind fun (o66, k67) => ((slcH vs.length 0 k21).bind fun (o73, k74) => (early (early (some ((fillL mpvs o66 k67 0).take k74)))))))) else (some (.go (IntKind.wrap .i64 (k10 + 1))))))) else (early (some (.go ()))))
def slices_Compact_Lint_int (vs : (List Int)) : Option (List Int) :=
 (if (decide ((vs.length : Int) < 2)) then (some vs) else (kont (loopN (slices_Compact_Lint_int_L1 vs) fuel 1) fun () => (some vs)))
def conf_Of (l : (List Int)) : Option (List Int) :=
 ((slices_Clone_Lint_int l).bind fun y => ((slices_DeleteFunc_Lint_int y (fun z0 => conf_Of_1 z0)).bind fun y1 => ((slices_Sort_Lint_int y1).bind fun y7 => ((chkl y1.length y7).bind fun () => ((slices_Compact_Lint_int y7).bind fun y13 => (some y13))))))
def slices_Equal_Lint_int_L1 (s1 : (List Int)) (s2 : (List Int)) : Int → Option (Ctl (Ctl Bool Unit) Int)
 | t135 => (if (decide (t135 < (s1.length : Int))) then ((idx s1 t135).bind fun x => ((idx s2 t135).bind fun x11 => (if (x != x11) then (early (early (some false))) else (some (.go (IntKind.wrap .i64 (t135 + 1))))))) else (early (some (.go ()))))
def slices_Equal_Lint_int (s1 : (List Int)) (s2 : (List Int)) : Option Bool :=
 (if ((s1.length : Int) != (s2.length : Int)) then (some false) else (kont (loopN (slices_Equal_Lint_int_L1 s1 s2) fuel 0) fun () => (some true)))
def conf_Right (l : (List Int)) : Option Bool :=
 ((if (decide ((l.length : Int) > 0)) then ((conf_Of l).bind fun y => ((slices_Equal_Lint_int l y).bind fun y1 => (some y1))) else (some false)).bind fun t2 => (some t2))
def slices_Index_Lint_int_L1 (vs : (List Int)) (v : Int) : Int → Option (Ctl (Ctl Int Unit) Int)
 | t85 => (if (decide (t85 < (vs.length : Int))) then ((idx vs t85).bind fun x => (if (v == x) then (early (early (some t85))) else (some (.go (IntKind.wrap .i64 (t85 + 1)))))) else (early (some (.go ()))))
def slices_Index_Lint_int (vs : (List Int)) (v : Int) : Option Int :=
 (kont (loopN (slices_Index_Lint_int_L1 vs v) fuel 0) fun () => (some (-1)))
def slices_Contains_Lint_int (vs : (List Int)) (v : Int) : Option Bool :=
 ((slices_Index_Lint_int vs v).bind fun y => (some (decide (y ≥ 0))))
def conf_Has (l : (List Int)) (n : Int) : Option Bool :=
 ((slices_Contains_Lint_int l n).bind fun y => (some y))
def conf_Most_L1 (yes : (List Int)) (y : (List Int)) : (Int × Int) → Option (Ctl Int (Int × Int))
 | (n6, t137) => (if (decide (t137 < (y.length : Int))) then (((idx y t137).bind fun x => ((conf_Has yes x).bind fun y15 => (if y15 then (some (IntKind.wrap .i64 (n6 + 1))) else (some n6)))).bind fun n11 => (some (.go (n11, (IntKind.wrap .i64 (t137 + 1)))))) else (early (some n6)))
def conf_Most (l : (List Int)) (yes : (List Int)) : Option Bool :=
 ((conf_Of l).bind fun y => ((loopN (conf_Most_L1 yes y) fuel (0, 0)).bind fun n => (some (decide ((IntKind.wrap .i64 (2 * n)) > (y.length : Int))))))
def conf_With (l : (List Int)) (n : Int) : Option (List Int) :=
 ((slices_Clone_Lint_int l).bind fun y => ((app 8 y ([n] : (List Int))).bind fun m => ((conf_Of m).bind fun y6 => (some y6))))
def conf_Without_1 (x : Int) (a1 : Int) : Option Bool :=
 (some (x == a1))
def conf_Without (l : (List Int)) (n : Int) : Option (List Int) :=
 ((conf_Of l).bind fun y => ((slices_DeleteFunc_Lint_int y (fun z0 => conf_Without_1 z0 n)).bind fun y7 => (some y7)))
def mementolaw6_known : Option Bool :=
 ((conf_Of ([2, 0, 9, 2, 1] : (List Int))).bind fun y => ((if ((y.length : Int) == 3) then ((idx y 0).bind fun x => (if (x == 0) then ((idx y 2).bind fun x2 => (if (x2 == 2) then ((conf_Right y).bind fun y4 => (if y4 then ((conf_Right ([] : (List Int))).bind fun y7 => (if (!y7) then ((conf_Most y ([0, 2] : (List Int))).bind fun y10 => (if y10 then ((conf_Most y ([1] : (List Int))).bind fun y13 => (if (!y13) then ((conf_Most ([] : (List Int)) ([] : (List Int))).bind fun y16 => (if (!y16) then ((conf_With y 5).bind fun y19 => (if ((y19.length : Int) == 4) then ((conf_Without y 0).bind fun y22 => (if ((y22.length : Int) == 2) then ((conf_Has y 1).bind fun y25 => (some y25)) else (some false))) else (some false))) else (some false))) else (some false))) else (some false))) else (some false))) else (some false))) else (some false))) else (some false))) else (some false)).bind fun t0 => (some t0)))
def mementohelp_Place (k : Int) (n : Int) : Option Int :=
 ((remI k n).bind fun x => ((if (decide (x < 0)) then (some (IntKind.wrap .i64 (x + n))) else (some x)).bind fun k1 => (some k1)))
def mementoref6_Has_L1 (l : (List Int)) (n : Int) : Int → Option (Ctl (Ctl Bool Unit) Int)
 | i5 => (if (decide (i5 < (l.length : Int))) then ((idx l i5).bind fun x => (if (x == n) then (early (early (some true))) else (some (.go (IntKind.wrap .i64 (i5 + 1)))))) else (early (some (.go ()))))
def mementoref6_Has (l : (List Int)) (n : Int) : Option Bool :=
 (kont (loopN (mementoref6_Has_L1 l n) fuel 0) fun () => (some false))
def mementoref6_Of_L1 (l : (List Int)) : ((List Int) × Int) → Option (Ctl (List Int) ((List Int) × Int))
 | (out9, n11) => (if (decide (n11 < 7)) then (((mementoref6_Has l n11).bind fun y => (if y then ((app 8 out9 ([n11] : (List Int))).bind fun m => (some m)) else (some out9))).bind fun out17 => (some (.go (out17, (IntKind.wrap .i64 (n11 + 1)))))) else (early (some out9)))
def mementoref6_Of (l : (List Int)) : Option (List Int) :=
 ((loopN (mementoref6_Of_L1 l) fuel (([] : (List Int)), 0)).bind fun out => (some out))
def mementoref6_With (l : (List Int)) (n : Int) : Option (List Int) :=
 ((app 8 ([] : (List Int)) l).bind fun m => ((app 8 m ([n] : (List Int))).bind fun m1 => ((mementoref6_Of m1).bind fun y => (some y))))
def mementoref6_SameInts_L1 (a : (List Int)) (b : (List Int)) : Int → Option (Ctl (Ctl Bool Unit) Int)
 | i5 => (if (decide (i5 < (a.length : Int))) then ((idx a i5).bind fun x => ((idx b i5).bind fun x11 => (if (x != x11) then (early (early (some false))) else (some (.go (IntKind.wrap .i64 (i5 + 1))))))) else (early (some (.go ()))))
def mementoref6_SameInts (a : (List Int)) (b : (List Int)) : Option Bool :=
 (if ((a.length : Int) != (b.length : Int)) then (some false) else (kont (loopN (mementoref6_SameInts_L1 a b) fuel 0) fun () => (some true)))
def mementohelp_Ints (a : (List Int)) (b : (List Int)) : Option Bool :=
 ((mementoref6_SameInts a b).bind fun y => (some y))
def mementoref6_Without_L1 (l : (List Int)) (n : Int) : ((List Int) × Int) → Option (Ctl (List Int) ((List Int) × Int))
 | (out9, i11) => (if (decide (i11 < (l.length : Int))) then (((idx l i11).bind fun x => (if (x != n) then ((app 8 out9 ([x] : (List Int))).bind fun m => (some m)) else (some out9))).bind fun out17 => (some (.go (out17, (IntKind.wrap .i64 (i11 + 1)))))) else (early (some out9)))
def mementoref6_Without (l : (List Int)) (n : Int) : Option (List Int) :=
 ((loopN (mementoref6_Without_L1 l n) fuel (([] : (List Int)), 0)).bind fun out => ((mementoref6_Of out).bind fun y => (some y)))
def mementoref6_Right_L1 (l : (List Int)) (y : (List Int)) : Int → Option (Ctl (Ctl Bool Unit) Int)
 | i8 => (if (decide (i8 < (l.length : Int))) then ((idx l i8).bind fun x => ((idx y i8).bind fun x14 => (if (x != x14) then (early (early (some false))) else (some (.go (IntKind.wrap .i64 (i8 + 1))))))) else (early (some (.go ()))))
def mementoref6_Right (l : (List Int)) : Option Bool :=
 ((mementoref6_Of l).bind fun y => ((if ((l.length : Int) == 0) then (some true) else (some ((y.length : Int) != (l.length : Int)))).bind fun t16 => (if t16 then (some false) else (kont (loopN (mementoref6_Right_L1 l y) fuel 0) fun () => (some true)))))
def mementoref6_Most_L1 (yes : (List Int)) (y : (List Int)) : (Int × Int) → Option (Ctl Int (Int × Int))
 | (n6, i7) => (if (decide (i7 < (y.length : Int))) then (((idx y i7).bind fun x => ((mementoref6_Has yes x).bind fun y15 => (if y15 then (some (IntKind.wrap .i64 (n6 + 1))) else (some n6)))).bind fun n11 => (some (.go (n11, (IntKind.wrap .i64 (i7 + 1)))))) else (early (some n6)))
def mementoref6_Most (l : (List Int)) (yes : (List Int)) : Option Bool :=
 ((mementoref6_Of l).bind fun y => ((loopN (mementoref6_Most_L1 yes y) fuel (0, 0)).bind fun n => (some (decide ((IntKind.wrap .i64 (2 * n)) > (y.length : Int))))))
def mementolaw6_ConfTells_L1 (a0 : (List Int)) : ((List Int) × Int) → Option (Ctl (List Int) ((List Int) × Int))
 | (t913, t1115) => (if (decide (t1115 < (a0.length : Int))) then ((idx a0 t1115).bind fun x => ((mementohelp_Place x 8).bind fun y22 => ((app 8 t913 ([y22] : (List Int))).bind fun m => (some (.go (m, (IntKind.wrap .i64 (t1115 + 1)))))))) else (early (some t913)))
def mementolaw6_ConfTells_L2 (a1 : (List Int)) : ((List Int) × Int) → Option (Ctl (List Int) ((List Int) × Int))
 | (t1048, t1250) => (if (decide (t1250 < (a1.length : Int))) then ((idx a1 t1250).bind fun x61 => ((mementohelp_Place x61 8).bind fun y62 => ((app 8 t1048 ([y62] : (List Int))).bind fun m64 => (some (.go (m64, (IntKind.wrap .i64 (t1250 + 1)))))))) else (early (some t1048)))
def mementolaw6_ConfTells_L4 (a2 : Int) (a3 : Int) (x88 : A2_int) : Int → Option (Ctl (Ctl (Ctl (Ctl Bool Unit) Int) Unit) Int)
 | t77108 => (if (decide (t77108 < (([a2, (IntKind.wrap .i64 (Int.tmod a3 9))] : (List Int)).length : Int))) then ((idx ([a2, (IntKind.wrap .i64 (Int.tmod a3 9))] : (List Int)) t77108).bind fun x115 => (((conf_Has x88.f0 x115).bind fun y120 => ((mementoref6_Has x88.f0 x115).bind fun y122 => (if (y120 != y122) then (some true) else ((conf_With x88.f0 x115).bind fun y125 => ((mementoref6_With x88.f0 x115).bind fun y127 => ((mementohelp_Ints y125 y127).bind fun y129 => (if (!y129) then (some true) else ((conf_Without x88.f0 x115).bind fun y132 => ((mementoref6_Without x88.f0 x115).bind fun y134 => ((mementohelp_Ints y132 y134).bind fun y136 => (some (!y136)))))))))))).bind fun t113 => (if t113 then (early (early (early (early (some false))))) else (some (.go (IntKind.wrap .i64 (t77108 + 1))))))) else (early (some (.go ()))))
def mementolaw6_ConfTells_L3 (a0 : (List Int)) (a1 : (List Int)) (a2 : Int) (a3 : Int) (t9 : (List Int)) (t10 : (List Int)) (y72 : (List Int)) : Int → Option (Ctl (Ctl Bool Unit) Int)
 | t6782 => (if (decide (t6782 < (([(A2_int.mk a0 a1), (A2_int.mk t9 t10), (A2_int.mk y72 t10)] : (List A2_int)).length : Int))) then ((idx ([(A2_int.mk a0 a1), (A2_int.mk t9 t10), (A2_int.mk y72 t10)] : (List A2_int)) t6782).bind fun x88 => (kont (loopN (mementolaw6_ConfTells_L4 a2 a3 x88) fuel 0) fun () => (((conf_Of x88.f0).bind fun y143 => ((mementoref6_Of x88.f0).bind fun y145 => ((mementohelp_Ints y143 y145).bind fun y147 => (if (!y147) then (some true) else ((conf_Right x88.f0).bind fun y150 => ((mementoref6_Right x88.f0).bind fun y152 => (if (y150 != y152) then (some true) else ((conf_Most x88.f0 x88.f1).bind fun y155 => ((mementoref6_Most x88.f0 x88.f1).bind fun y157 => (some (y155 != y157))))))))))).bind fun t144 => (if t144 then (early (early (some false))) else (some (.go (IntKind.wrap .i64 (t6782 + 1)))))))) else (early (some (.go ()))))
def mementolaw6_ConfTells (a0 : (List Int)) (a1 : (List Int)) (a2 : Int) (a3 : Int) : Option Bool :=
 ((mementolaw6_known).bind fun y => (if (!y) then (some false) else ((if (decide ((a0.length : Int) > 20)) then (some true) else (some (decide ((a1.length : Int) > 20)))).bind fun t26 => (if t26 then (some true) else ((loopN (mementolaw6_ConfTells_L1 a0) fuel (([] : (List Int)), 0)).bind fun t9 => ((loopN (mementolaw6_ConfTells_L2 a1) fuel (([] : (List Int)), 0)).bind fun t10 => ((mementoref6_Of t9).bind fun y72 => (kont (loopN (mementolaw6_ConfTells_L3 a0 a1 a2 a3 t9 t10 y72) fuel 0) fun () => (some true)))))))))
end Go.Proofs.Ytafccpphghhnjaa.Am
namespace Go.Proofs.Ytafccpphghhnjaa.Am
open Go
set_option linter.unusedVariables false
set_option linter.unusedSimpArgs false
set_option linter.unnecessarySimpa false
set_option maxRecDepth 100000
set_option maxHeartbeats 4000000 in
theorem w_slices_IndexFunc_Lint_int_own0 (pvs : Nat) (vs : (List Int)) (f : (Int → Option Bool)) (fff : Nat) (fsf fcf : List AV) (H : Mem) {r : Int} (h : slices_IndexFunc_Lint_int_own0 vs f = some r) (fpvs0 : H[pvs]? = some (.cells ((vs.map c_i64).flatten.map PV.av))) (hff : ∀ (z0 : Int) (zr : Bool), f z0 = some zr → ∀ M, H <+: M → ACalls Try.prog fff (fsf ++ [kI z0] ++ fcf) M (fun r' H' => r' = kB zr ∧ H' = M)) : ACalls Try.prog 30 [.hs pvs 0 vs.length vs.length 1, .fn (.func fff) fsf fcf] H (fun r' H' => r' = kI r ∧ H' = H) := by
 unfold slices_IndexFunc_Lint_int_own0 at h
 refine ACalls.done0 rfl ?_
 refine acalls_walk Try.func30 rfl cl30 (by simp [Try.ntmps30]) (fun hB => ?_)
 refine aw_reb (Reb.of (l := [(0, .hs pvs 0 vs.length vs.length 1), (1, .fn (.func fff) fsf fcf)]) (by simp [FrL, afr0])) ?_
 have fpvs := fpvs0
 have lnpvs : vs.length = vs.length := rfl
 have hpre : H <+: H := List.prefix_refl _
 refine sr (by decide) <| OR 1 rfl <| nt <| aw_seq <| sr (by decide) ?_
 refine OR 1 rfl <| OD (kI (vs.length : Int)) H rfl (o_lenH U22 rfl) <| OR 1 rfl <| nt ?_
 obtain ⟨vc, h, k⟩ := kont_some h
 refine aw_tailD (S := Unit) (G := Unit) vc (fun s g => Frm.of []) (fun s g M => H <+: M ∧ M[pvs]? = some (.cells ((vs.map c_i64).flatten.map PV.av)) ∧ vs.length = vs.length) ?_ ?_
 ·refine aw_block ?_
  refine aw_loopD (S := Int) (G := Unit) (H1 := H) h (fun s g => Frm.of [(0, .hs pvs 0 vs.length vs.length 1), (1, .fn (.func fff) fsf fcf), (7, kI (vs.length : Int)), (8, kI s)]) (fun s g M => H <+: M ∧ M[pvs]? = some (.cells ((vs.map c_i64).flatten.map PV.av)) ∧ vs.length = vs.length) () ⟨hpre, fpvs, lnpvs⟩ (flr rfl) ?_
  intro t810 g1 M11 vc16 hI h k15
  obtain ⟨⟩ := g1
  obtain ⟨hp12, f13, ln14⟩ := hI
  unfold slices_IndexFunc_Lint_int_own0_L1 at h
  refine sr (by decide) <| OR 1 rfl <| nt <| aw_seq ?_
  refine aT h rfl (fun hb h => ?_) (fun hb h => ?_)
  ·refine aw_skip <| thenQ_n <| aw_seq <| aw_block <| sr (by decide) <| OR 2 rfl <| OpsS_nil ?_
   refine thenQ_n <| sr (by decide) <| OR 3 rfl ?_
   obtain ⟨x, qx, h⟩ := bs h
   refine OD (.pt pvs (t810.toNat * 1)) M11 rfl (o_indexAddrO (l := vs) U22 ti3 rfl rfl ln14 qx) <| OD (kI x) M11 rfl (o_loadO (c := c_i64) (z := 1) (j := 0) (l := vs) (i := t810) (a := x) (p := .sc (.int .i64 x)) ag3 ti3 rfl (by omega) f13 (fun _ => rfl) qx rfl rf) ?_
   obtain ⟨y, qy, h⟩ := bs h
   refine OD (kB y) M11 rfl (o_callv rfl (hff x _ qy M11 hp12) (ALe.refl _) rf) <| nt ?_
   refine aT h rfl (fun hb17 h => ?_) (fun hb17 h => ?_)
   ·refine sr (by decide) <| OR 2 rfl <| nt <| aw_ret <| blockQ_ret <| thenQ_ret ?_
    refine thenQ_ret ?_
    have h := early_ret h k15
    refine blockQ_ret <| thenQ_ret ?_
    have h := early_some h k
    refine thenQ_ret ?_
    obtain rfl := sI h
    exact done_tmp rfl rf hp12
   ·refine aw_skip <| blockQ_n <| thenQ_n <| aw_region (by decide) <| OR 2 rfl <| OpsS_nil ?_
    exact thenQ_n ⟨(IntKind.wrap .i64 (t810 + 1)), (), M11, (Option.some.inj h).symm, ⟨hp12, f13, ln14⟩, flr rfl⟩
  ·refine aw_exit <| thenQ_exit <| thenQ_exit ?_
   have h := early_ret h k15
   refine blockQ_exit ?_
   exact thenQ_n ⟨(), (), M11, (Option.some.inj h).symm, ⟨hp12, f13, ln14⟩, Reb.fl trivial⟩
 ·rintro ⟨⟩ ⟨⟩ M rfl ⟨hp, f1, ln⟩
  have h := kont_go k
  refine thenQ_n <| sr (by decide) <| OR 1 rfl <| nt <| aw_ret ?_
  obtain rfl := sI h
  exact done_tmp rfl rf hp
set_option maxHeartbeats 4000000 in
theorem w_slices_DeleteFunc_Lint_int (pvs : Nat) (vs : (List Int)) (del : (Int → Option Bool)) (ffdel : Nat) (fsdel fcdel : List AV) (H : Mem) {r : (List Int)} (h : slices_DeleteFunc_Lint_int vs del = some r) (fpvs0 : H[pvs]? = some (.cells ((vs.map c_i64).flatten.map PV.av))) (hfdel : ∀ (z0 : Int) (zr : Bool), del z0 = some zr → ∀ (zy : Ent) M, H.set pvs zy <+: M → ACalls Try.prog ffdel (fsdel ++ [kI z0] ++ fcdel) M (fun r' H' => r' = kB zr ∧ H' = M)) : ACalls Try.prog 22 [.hs pvs 0 vs.length vs.length 1, .fn (.func ffdel) fsdel fcdel] H (fun r' H' => r' = .hs pvs 0 r.length r.length 1 ∧ H' = H.set pvs (.cells ((r.map c_i64).flatten.map PV.av))) := by
 unfold slices_DeleteFunc_Lint_int at h
 refine ACalls.done (by simp) (fun hB => MBd.setO (hB)) (by rw [List.length_set]; exact .hs _ _ _ _ _ (lt_of_get fpvs0)) ?_
 refine acalls_walk Try.func22 rfl cl22 (by simp [Try.ntmps22]) (fun hB => ?_)
 refine aw_reb (Reb.of (l := [(0, .hs pvs 0 vs.length vs.length 1), (1, .fn (.func ffdel) fsdel fcdel)]) (by simp [FrL, afr0])) ?_
 have fpvs := fpvs0
 have lnpvs : vs.length = vs.length := rfl
 have hpre : (H.set pvs (.cells ((vs.map c_i64).flatten.map PV.av))) <+: H := pre_set fpvs
 refine sr (by decide) <| OR 1 rfl <| nt <| sr (by decide) <| OR 2 rfl ?_
 obtain ⟨y, q, h⟩ := bs h
 refine OD (kI y) H rfl (o_call (w_slices_IndexFunc_Lint_int_own0 pvs vs del ffdel fsdel fcdel H q fpvs (fun z0 zr zh M hM => hfdel z0 zr zh _ M (hpre.trans hM))) ⟨.refl _, .refl _, trivial⟩ rf) <| OR 1 rfl <| nt <| aw_seq <| sr (by decide) <| OR 2 rfl ?_
 refine nt ?_
 refine aT h rfl (fun hb h => ?_) (fun hb h => ?_)
 ·refine sr (by decide) <| OR 2 rfl <| nt <| aw_ret <| thenQ_ret ?_
  obtain rfl := sI h
  exact done_tmp rfl (.hsn lnpvs) hpre
 ·refine aw_skip <| thenQ_n <| aw_seq <| sr (by decide) <| OR 3 rfl <| nt ?_
  obtain ⟨vc, h, k⟩ := bs h
  refine aw_tailS (S := (Int × (List Int))) (G := Unit) vc (fun s g => Frm.of [(0, .hs pvs 0 vs.length vs.length 1), (5, kI s.1)]) (fun s g M => (H.set pvs (.cells ((s.2.map c_i64).flatten.map PV.av))) <+: M ∧ M[pvs]? = some (.cells ((s.2.map c_i64).flatten.map PV.av)) ∧ s.2.length = vs.length) ?_ ?_
  ·refine aw_block ?_
   refine aw_loopD (S := (Int × Int × (List Int))) (G := Unit) (H1 := H) h (fun s g => Frm.of [(0, .hs pvs 0 vs.length vs.length 1), (1, .fn (.func ffdel) fsdel fcdel), (5, kI s.1), (6, kI s.2.1)]) (fun s g M => (H.set pvs (.cells ((s.2.2.map c_i64).flatten.map PV.av))) <+: M ∧ M[pvs]? = some (.cells ((s.2.2.map c_i64).flatten.map PV.av)) ∧ s.2.2.length = vs.length) () ⟨hpre, fpvs, lnpvs⟩ (flr rfl) ?_
   intro s1 g1 M14 vc19 hI h k18
   obtain ⟨i11, j12, mpvs13⟩ := s1
   obtain ⟨⟩ := g1
   obtain ⟨hp15, f16, ln17⟩ := hI
   unfold slices_DeleteFunc_Lint_int_L1 at h
   refine aw_seq <| sr (by decide) <| OR 2 rfl <| OD (kI (vs.length : Int)) M14 rfl (o_lenH U22 rfl) <| OR 1 rfl <| nt ?_
   refine aT h rfl (fun hb20 h => ?_) (fun hb20 h => ?_)
   ·refine aw_skip <| thenQ_n ?_
    obtain ⟨vc28, h, k27⟩ := bs h
    refine aw_joinS (S := (Int × (List Int))) (G := Unit) vc28 (fun s g => Frm.of [(0, .hs pvs 0 vs.length vs.length 1), (1, .fn (.func ffdel) fsdel fcdel), (5, kI s.1), (6, kI j12)]) (fun s g M => (H.set pvs (.cells ((s.2.map c_i64).flatten.map PV.av))) <+: M ∧ M[pvs]? = some (.cells ((s.2.map c_i64).flatten.map PV.av)) ∧ s.2.length = vs.length) ?_ ?_
    ·refine aw_block <| sr (by decide) <| OR 2 rfl ?_
     obtain ⟨x, qx, h⟩ := bs h
     refine OD (.pt pvs (j12.toNat * 1)) M14 rfl (o_indexAddrO (l := mpvs13) U22 ti3 rfl rfl ln17 qx) <| OD (kI x) M14 rfl (o_loadO (c := c_i64) (z := 1) (j := 0) (l := mpvs13) (i := j12) (a := x) (p := .sc (.int .i64 x)) ag3 ti3 rfl (by omega) f16 (fun _ => rfl) qx rfl rf) <| OR 1 rfl <| nt <| sr (by decide) <| OR 2 rfl ?_
     obtain ⟨y29, qy29, h⟩ := bs h
     refine OD (kB y29) M14 rfl (o_callv rfl (hfdel x _ qy29 _ M14 hp15) (ALe.refl _) rf) <| OR 1 rfl <| nt ?_
     refine aT h rfl (fun hb30 h => ?_) (fun hb30 h => ?_)
     ·refine sr (by decide) <| OR 3 rfl ?_
      obtain ⟨x31, qx31, h⟩ := bs h
      refine OD (.pt pvs (i11.toNat * 1)) M14 rfl (o_indexAddrO (l := mpvs13) U22 ti3 rfl rfl ln17 qx31) ?_
      obtain ⟨m, qm, h⟩ := bs h
      obtain ⟨M32, hM32⟩ := nM (M14.set pvs (.cells ((m.map c_i64).flatten.map PV.av)))
      refine OD (undefA) M32 rfl (o_storeO (c := c_i64) (z := 1) (l := mpvs13) (i := i11) (a := x31) (a' := x) (j := 0) (p := .sc (.int .i64 x)) (v := kI x) ti3 rfl (by omega) rfl f16 (fun _ => rfl) qx31 (by decide) rfl rfl rfl rf rfl qm hM32) ?_
      have ln33 : m.length = vs.length := (updL_len qm).trans ln17
      have f34 := eqM hM32 (get_self f16)
      have hp35 : (H.set pvs (.cells ((m.map c_i64).flatten.map PV.av))) <+: M32 := by rw [hM32]; have q := pre_lo (i := pvs) (x := (.cells ((m.map c_i64).flatten.map PV.av))) hp15 (by simp only [List.length_set]; exact (lt_of_get fpvs0)); simpa using q
      refine nt <| aw_region (by decide) <| OR 3 rfl <| OpsS_nil <| blockQ_n ?_
      obtain rfl := sI h
      exact thenQ_n ⟨(), M32, ⟨hp35, f34, ln33⟩, flr rfl⟩
     ·refine aw_skip <| blockQ_n ?_
      obtain rfl := sI h
      exact thenQ_n ⟨(), M14, ⟨hp15, f16, ln17⟩, flr rfl⟩
    ·obtain ⟨i21, mpvs22⟩ := vc28
     rintro ⟨⟩ M23 ⟨hp24, f25, ln26⟩
     have h := k27
     refine aw_region (by decide) <| OR 3 rfl <| OpsS_nil ?_
     exact thenQ_n ⟨(i21, (IntKind.wrap .i64 (j12 + 1)), mpvs22), (), M23, (Option.some.inj h).symm, ⟨hp24, f25, ln26⟩, flr rfl⟩
   ·refine aw_exit <| thenQ_exit <| thenQ_exit ?_
    have h := early_ret h k18
    refine blockQ_exit ?_
    obtain rfl := sI h
    exact thenQ_n ⟨(), M14, ⟨hp15, f16, ln17⟩, flr rfl⟩
  ·obtain ⟨i, mpvs⟩ := vc
   rintro ⟨⟩ M ⟨hp, f, ln⟩
   have h := k
   refine thenQ_n <| sr (by decide) <| OR 2 rfl ?_
   obtain ⟨⟨o, k36⟩, q37, h⟩ := bs h
   refine OD (.hs pvs (o * 1) k36 (vs.length - o) 1) M rfl (o_sliceHO (lo' := some (.i64, i)) (hi' := none) U22 ti3 rfl rfl rfl q37) ?_
   obtain ⟨M38, hM38⟩ := nM (M.set pvs (.cells (((fillL mpvs o k36 0).map c_i64).flatten.map PV.av)))
   refine OD (.tp []) M38 rfl (o_clearO (l := mpvs) (a := 0) (c := c_i64) U22 ti3 rfl (by decide) rfl (fun _ => rfl) rfl f (by have q := slcH_le q37; have q2 : mpvs.length = vs.length := ln; first | omega | (simp only; omega)) hM38) ?_
   have ln39 : (fillL mpvs o k36 0).length = vs.length := (fillL_len (by have q := slcH_le q37; have q2 : mpvs.length = vs.length := ln; first | omega | (simp only; omega))).trans ln
   have f40 := eqM hM38 (get_self f)
   have hp41 : (H.set pvs (.cells (((fillL mpvs o k36 0).map c_i64).flatten.map PV.av))) <+: M38 := by rw [hM38]; have q := pre_lo (i := pvs) (x := (.cells (((fillL mpvs o k36 0).map c_i64).flatten.map PV.av))) hp (by simp only [List.length_set]; exact (lt_of_get fpvs0)); simpa using q
   refine nt <| sr (by decide) <| OR 2 rfl ?_
   obtain ⟨⟨o42, k43⟩, q44, h⟩ := bs h
   obtain rfl : o42 = 0 := (slcH_some q44).2.2.2.1
   refine OD (.hs pvs 0 k43 vs.length 1) M38 rfl (o_sliceHO (o := 0) (lo' := none) (hi' := some (.i64, i)) U22 ti3 rfl rfl rfl q44) <| OR 1 rfl <| nt <| aw_ret ?_
   obtain rfl := sI h
   have hcut : k43 ≤ vs.length ∧ 0 = 0 := by have q := slcH_some q44; have q2 := slcH_le q44; omega
   exact done_cut (n := vs.length) (k := k43) (o := 0) rfl f40 rfl ln39 hcut hp41 (lt_of_get fpvs0)
set_option maxHeartbeats 4000000 in
theorem w_conf_may (n : Int) (H : Mem) {r : Bool} (h : conf_may n = some r) : ACalls Try.prog 25 [kI n] H (fun r' H' => r' = kB r ∧ H' = H) := by
 unfold conf_may at h
 refine ACalls.done0 rfl ?_
 refine acalls_walk Try.func25 rfl cl25 (by simp [Try.ntmps25]) (fun hB => ?_)
 refine aw_reb (Reb.of (l := [(0, kI n)]) (by simp [FrL, afr0])) ?_
 have hpre : H <+: H := List.prefix_refl _
 refine sr (by decide) <| OR 1 rfl <| nt ?_
 obtain ⟨t2, h, k⟩ := bs h
 refine aw_joinS (S := Bool) (G := Unit) t2 (fun s g => Frm.of [(2, kB s)]) (fun s g M => H <+: M) ?_ ?_
 ·refine aw_region (by decide) <| OR 2 rfl ?_
  refine oT h rfl (o_move rf) (fun hg h => ?_) (fun hg h => ?_)
  ·refine OR 4 rfl <| OpsS_nil ?_
   obtain rfl := sI h
   exact thenQ_n ⟨(), H, hpre, flr rfl⟩
  ·refine OR 4 rfl <| OpsS_nil ?_
   obtain rfl := sI h
   exact thenQ_n ⟨(), H, hpre, flr rfl⟩
 ·rintro ⟨⟩ M hp
  have h := k
  refine aw_ret ?_
  obtain rfl := sI h
  exact done_tmp rfl rf hp
set_option maxHeartbeats 4000000 in
theorem w_conf_Of_1 (n : Int) (H : Mem) {r : Bool} (h : conf_Of_1 n = some r) : ACalls Try.prog 24 [kI n] H (fun r' H' => r' = kB r ∧ H' = H) := by
 unfold conf_Of_1 at h
 refine ACalls.done0 rfl ?_
 refine acalls_walk Try.func24 rfl cl24 (by simp [Try.ntmps24]) (fun hB => ?_)
 refine aw_reb (Reb.of (l := [(0, kI n)]) (by simp [FrL, afr0])) ?_
 have hpre : H <+: H := List.prefix_refl _
 refine sr (by decide) <| OR 1 rfl <| nt <| sr (by decide) <| OR 1 rfl ?_
 obtain ⟨y, q, h⟩ := bs h
 refine OD (kB y) H rfl (o_call (w_conf_may n H q) ⟨rf, trivial⟩ rf) <| OR 2 rfl <| nt <| aw_ret ?_
 obtain rfl := sI h
 exact done_tmp rfl rf hpre
set_option maxHeartbeats 4000000 in
theorem w_slices_Compact_Lint_int (pvs : Nat) (vs : (List Int)) (H : Mem) {r : (List Int)} (h : slices_Compact_Lint_int vs = some r) (fpvs0 : H[pvs]? = some (.cells ((vs.map c_i64).flatten.map PV.av))) : ACalls Try.prog 27 [.hs pvs 0 vs.length vs.length 1] H (fun r' H' => r' = .hs pvs 0 r.length r.length 1 ∧ H' = H.set pvs (.cells ((r.map c_i64).flatten.map PV.av))) := by
 unfold slices_Compact_Lint_int at h
 refine ACalls.done (by simp) (fun hB => MBd.setO (hB)) (by rw [List.length_set]; exact .hs _ _ _ _ _ (lt_of_get fpvs0)) ?_
 refine acalls_walk Try.func27 rfl cl27 (by simp [Try.ntmps27]) (fun hB => ?_)
 refine aw_reb (Reb.of (l := [(0, .hs pvs 0 vs.length vs.length 1)]) (by simp [FrL, afr0])) ?_
 have fpvs := fpvs0
 have lnpvs : vs.length = vs.length := rfl
 have hpre : (H.set pvs (.cells ((vs.map c_i64).flatten.map PV.av))) <+: H := pre_set fpvs
 refine sr (by decide) <| OR 1 rfl <| nt <| aw_seq <| sr (by decide) ?_
 refine OR 1 rfl <| OD (kI (vs.length : Int)) H rfl (o_lenH U22 rfl) <| OR 1 rfl <| nt ?_
 refine aT h rfl (fun hb h => ?_) (fun hb h => ?_)
 ·refine sr (by decide) <| OR 2 rfl <| nt <| aw_ret <| thenQ_ret ?_
  obtain rfl := sI h
  exact done_tmp rfl (.hsn lnpvs) hpre
 ·refine aw_skip <| thenQ_n <| aw_seq <| sr (by decide) <| OR 1 rfl <| nt ?_
  obtain ⟨vc, h, k⟩ := kont_some h
  refine aw_tailD (S := Unit) (G := Unit) vc (fun s g => Frm.of [(0, .hs pvs 0 vs.length vs.length 1)]) (fun s g M => (H.set pvs (.cells ((vs.map c_i64).flatten.map PV.av))) <+: M ∧ M[pvs]? = some (.cells ((vs.map c_i64).flatten.map PV.av)) ∧ vs.length = vs.length) ?_ ?_
  ·refine aw_block ?_
   refine aw_loopD (S := Int) (G := Unit) (H1 := H) h (fun s g => Frm.of [(0, .hs pvs 0 vs.length vs.length 1), (3, kI s)]) (fun s g M => (H.set pvs (.cells ((vs.map c_i64).flatten.map PV.av))) <+: M ∧ M[pvs]? = some (.cells ((vs.map c_i64).flatten.map PV.av)) ∧ vs.length = vs.length) () ⟨hpre, fpvs, lnpvs⟩ (flr rfl) ?_
   intro k10 g1 M11 vc16 hI h k15
   obtain ⟨⟩ := g1
   obtain ⟨hp12, f13, ln14⟩ := hI
   unfold slices_Compact_Lint_int_L1 at h
   refine aw_seq <| sr (by decide) <| OR 2 rfl <| OD (kI (vs.length : Int)) M11 rfl (o_lenH U22 rfl) <| OR 1 rfl <| nt ?_
   refine aT h rfl (fun hb17 h => ?_) (fun hb17 h => ?_)
   ·refine aw_skip <| thenQ_n <| aw_seq <| aw_block <| aw_seq <| aw_draw mixed [0, 0, 0, 1, 0, 0, 0, 0, 1, 0] (by decide) (by kernel_rfl) <| DR 2 rfl ?_
    obtain ⟨x, qx, h⟩ := bs h
    refine DD0 (.pt pvs (k10.toNat * 1)) rfl (fun H0 => o_indexAddrO (l := vs) U22 ti3 rfl rfl ln14 qx) <| DD1 (kI x) rfl (fun H0 hB => o_loadO (c := c_i64) (z := 1) (j := 0) (l := vs) (i := k10) (a := x) (p := .sc (.int .i64 x)) ag3 ti3 rfl (by omega) (pre_get hB f13) (fun _ => rfl) qx rfl rf) <| DR 3 rfl ?_
    obtain ⟨x18, qx18, h⟩ := bs h
    refine DD0 (.pt pvs ((IntKind.wrap .i64 (k10 - 1)).toNat * 1)) rfl (fun H0 => o_indexAddrO (l := vs) U22 ti3 rfl rfl ln14 qx18) <| DD1 (kI x18) rfl (fun H0 hB => o_loadO (c := c_i64) (z := 1) (j := 0) (l := vs) (i := (IntKind.wrap .i64 (k10 - 1))) (a := x18) (p := .sc (.int .i64 x18)) ag3 ti3 rfl (by omega) (pre_get hB f13) (fun _ => rfl) qx18 rfl rf) <| DR 1 rfl <| DRun_nil <| thenQ_n ?_
    refine aT h rfl (fun hb19 h => ?_) (fun hb19 h => ?_)
    ·refine sr (by decide) <| OR 2 rfl ?_
     obtain ⟨⟨o, k20⟩, q, h⟩ := bs h
     refine OD (.hs pvs (o * 1) k20 (vs.length - o) 1) M11 rfl (o_sliceHO (lo' := some (.i64, k10)) (hi' := none) U22 ti3 rfl rfl rfl q) <| OR 1 rfl <| nt <| aw_seq <| sr (by decide) <| OR 1 rfl ?_
     refine nt ?_
     obtain ⟨vc27, h, k26⟩ := bs h
     refine aw_tailS (S := (Int × (List Int))) (G := Unit) vc27 (fun s g => Frm.of [(0, .hs pvs 0 vs.length vs.length 1), (3, kI s.1)]) (fun s g M => (H.set pvs (.cells ((s.2.map c_i64).flatten.map PV.av))) <+: M ∧ M[pvs]? = some (.cells ((s.2.map c_i64).flatten.map PV.av)) ∧ s.2.length = vs.length) ?_ ?_
     ·refine aw_block ?_
      refine aw_loopD (S := (Int × Int × (List Int))) (G := Unit) (H1 := M11) h (fun s g => Frm.of [(0, .hs pvs 0 vs.length vs.length 1), (3, kI s.1), (4, .hs pvs (o * 1) k20 (vs.length - o) 1), (5, kI s.2.1)]) (fun s g M => (H.set pvs (.cells ((s.2.2.map c_i64).flatten.map PV.av))) <+: M ∧ M[pvs]? = some (.cells ((s.2.2.map c_i64).flatten.map PV.av)) ∧ s.2.2.length = vs.length) () ⟨hp12, f13, ln14⟩ (flr rfl) ?_
      intro s1 g1 M41 vc46 hI h k45
      obtain ⟨k38, k239, mpvs40⟩ := s1
      obtain ⟨⟩ := g1
      obtain ⟨hp42, f43, ln44⟩ := hI
      unfold slices_Compact_Lint_int_L2 at h
      refine aw_seq <| sr (by decide) <| OR 2 rfl <| OD (kI (k20 : Int)) M41 rfl (o_lenH U22 rfl) <| OR 1 rfl <| nt ?_
      refine aT h rfl (fun hb47 h => ?_) (fun hb47 h => ?_)
      ·refine aw_skip <| thenQ_n ?_
       obtain ⟨vc55, h, k54⟩ := bs h
       refine aw_joinS (S := (Int × (List Int))) (G := Unit) vc55 (fun s g => Frm.of [(0, .hs pvs 0 vs.length vs.length 1), (3, kI s.1), (4, .hs pvs (o * 1) k20 (vs.length - o) 1), (5, kI k239)]) (fun s g M => (H.set pvs (.cells ((s.2.map c_i64).flatten.map PV.av))) <+: M ∧ M[pvs]? = some (.cells ((s.2.map c_i64).flatten.map PV.av)) ∧ s.2.length = vs.length) ?_ ?_
       ·refine aw_block <| aw_seq <| aw_draw mixed [0, 0, 0, 1, 0, 0, 0, 0, 1, 0] (by decide) (by kernel_rfl) <| DR 2 rfl ?_
        obtain ⟨x56, qx56, h⟩ := bs h
        have hi := (idxP_some qx56).1
        refine DD0 (.pt pvs ((o + k239.toNat) * 1)) rfl (fun H0 => o_indexAddrP (l := mpvs40) (o := o) U22 ti3 rfl rfl qx56) <| DD1 (kI x56) rfl (fun H0 hB => o_loadO (c := c_i64) (z := 1) (j := 0) (l := mpvs40) (i := ((o : Int) + k239)) (a := x56) (p := .sc (.int .i64 x56)) ag3 ti3 rfl (by omega) (pre_get hB f43) (fun _ => rfl) (idxP_some qx56).2.2 rfl rf) <| DR 3 rfl ?_
        obtain ⟨x57, qx57, h⟩ := bs h
        have hi58 := (idxP_some qx57).1
        refine DD0 (.pt pvs ((o + (IntKind.wrap .i64 (k239 - 1)).toNat) * 1)) rfl (fun H0 => o_indexAddrP (l := mpvs40) (o := o) U22 ti3 rfl rfl qx57) <| DD1 (kI x57) rfl (fun H0 hB => o_loadO (c := c_i64) (z := 1) (j := 0) (l := mpvs40) (i := ((o : Int) + (IntKind.wrap .i64 (k239 - 1)))) (a := x57) (p := .sc (.int .i64 x57)) ag3 ti3 rfl (by omega) (pre_get hB f43) (fun _ => rfl) (idxP_some qx57).2.2 rfl rf) <| DR 1 rfl <| DRun_nil <| thenQ_n ?_
        refine aT h rfl (fun hb59 h => ?_) (fun hb59 h => ?_)
        ·refine sr (by decide) <| OR 4 rfl ?_
         have hi60 := (idxP_some qx56).1
         refine OD (.pt pvs ((o + k239.toNat) * 1)) M41 rfl (o_indexAddrP (l := mpvs40) (o := o) U22 ti3 rfl rfl qx56) <| OD (kI x56) M41 rfl (o_loadO (c := c_i64) (z := 1) (j := 0) (l := mpvs40) (i := ((o : Int) + k239)) (a := x56) (p := .sc (.int .i64 x56)) ag3 ti3 rfl (by omega) f43 (fun _ => rfl) (idxP_some qx56).2.2 rfl rf) ?_
         obtain ⟨x61, qx61, h⟩ := bs h
         refine OD (.pt pvs (k38.toNat * 1)) M41 rfl (o_indexAddrO (l := mpvs40) U22 ti3 rfl rfl ln44 qx61) ?_
         obtain ⟨m, qm, h⟩ := bs h
         obtain ⟨M62, hM62⟩ := nM (M41.set pvs (.cells ((m.map c_i64).flatten.map PV.av)))
         refine OD (undefA) M62 rfl (o_storeO (c := c_i64) (z := 1) (l := mpvs40) (i := k38) (a := x61) (a' := x56) (j := 0) (p := .sc (.int .i64 x56)) (v := kI x56) ti3 rfl (by omega) rfl f43 (fun _ => rfl) qx61 (by decide) rfl rfl rfl rf rfl qm hM62) ?_
         have ln63 : m.length = vs.length := (updL_len qm).trans ln44
         have f64 := eqM hM62 (get_self f43)
         have hp65 : (H.set pvs (.cells ((m.map c_i64).flatten.map PV.av))) <+: M62 := by rw [hM62]; have q := pre_lo (i := pvs) (x := (.cells ((m.map c_i64).flatten.map PV.av))) hp42 (by simp only [List.length_set]; exact (lt_of_get fpvs0)); simpa using q
         refine nt <| aw_region (by decide) <| OR 3 rfl <| OpsS_nil <| blockQ_n ?_
         obtain rfl := sI h
         exact thenQ_n ⟨(), M62, ⟨hp65, f64, ln63⟩, flr rfl⟩
        ·refine aw_skip <| blockQ_n ?_
         obtain rfl := sI h
         exact thenQ_n ⟨(), M41, ⟨hp42, f43, ln44⟩, flr rfl⟩
       ·obtain ⟨k48, mpvs49⟩ := vc55
        rintro ⟨⟩ M50 ⟨hp51, f52, ln53⟩
        have h := k54
        refine aw_region (by decide) <| OR 3 rfl <| OpsS_nil ?_
        exact thenQ_n ⟨(k48, (IntKind.wrap .i64 (k239 + 1)), mpvs49), (), M50, (Option.some.inj h).symm, ⟨hp51, f52, ln53⟩, flr rfl⟩
      ·refine aw_exit <| thenQ_exit <| thenQ_exit ?_
       have h := early_ret h k45
       refine blockQ_exit ?_
       obtain rfl := sI h
       exact thenQ_n ⟨(), M41, ⟨hp42, f43, ln44⟩, flr rfl⟩
     ·obtain ⟨k21, mpvs⟩ := vc27
      rintro ⟨⟩ M22 ⟨hp23, f24, ln25⟩
      have h := k26
      refine thenQ_n <| sr (by decide) <| OR 2 rfl ?_
      obtain ⟨⟨o66, k67⟩, q68, h⟩ := bs h
      refine OD (.hs pvs (o66 * 1) k67 (vs.length - o66) 1) M22 rfl (o_sliceHO (lo' := some (.i64, k21)) (hi' := none) U22 ti3 rfl rfl rfl q68) ?_
      obtain ⟨M69, hM69⟩ := nM (M22.set pvs (.cells (((fillL mpvs o66 k67 0).map c_i64).flatten.map PV.av)))
      refine OD (.tp []) M69 rfl (o_clearO (l := mpvs) (a := 0) (c := c_i64) U22 ti3 rfl (by decide) rfl (fun _ => rfl) rfl f24 (by have q := slcH_le q68; have q2 : mpvs.length = vs.length := ln25; first | omega | (simp only; omega)) hM69) ?_
      have ln70 : (fillL mpvs o66 k67 0).length = vs.length := (fillL_len (by have q := slcH_le q68; have q2 : mpvs.length = vs.length := ln25; first | omega | (simp only; omega))).trans ln25
      have f71 := eqM hM69 (get_self f24)
      have hp72 : (H.set pvs (.cells (((fillL mpvs o66 k67 0).map c_i64).flatten.map PV.av))) <+: M69 := by rw [hM69]; have q := pre_lo (i := pvs) (x := (.cells (((fillL mpvs o66 k67 0).map c_i64).flatten.map PV.av))) hp23 (by simp only [List.length_set]; exact (lt_of_get fpvs0)); simpa using q
      refine nt <| sr (by decide) <| OR 2 rfl ?_
      obtain ⟨⟨o73, k74⟩, q75, h⟩ := bs h
      obtain rfl : o73 = 0 := (slcH_some q75).2.2.2.1
      refine OD (.hs pvs 0 k74 vs.length 1) M69 rfl (o_sliceHO (o := 0) (lo' := none) (hi' := some (.i64, k21)) U22 ti3 rfl rfl rfl q75) <| OR 1 rfl <| nt <| aw_ret <| blockQ_ret <| thenQ_ret <| thenQ_ret ?_
      have h := early_ret h k15
      refine blockQ_ret <| thenQ_ret ?_
      have h := early_some h k
      refine thenQ_ret ?_
      obtain rfl := sI h
      have hcut : k74 ≤ vs.length ∧ 0 = 0 := by have q := slcH_some q75; have q2 := slcH_le q75; omega
      exact done_cut (n := vs.length) (k := k74) (o := 0) rfl f71 rfl ln70 hcut hp72 (lt_of_get fpvs0)
    ·refine aw_skip <| blockQ_n <| thenQ_n <| aw_region (by decide) <| OR 3 rfl <| OpsS_nil ?_
     exact thenQ_n ⟨(IntKind.wrap .i64 (k10 + 1)), (), M11, (Option.some.inj h).symm, ⟨hp12, f13, ln14⟩, flr rfl⟩
   ·refine aw_exit <| thenQ_exit <| thenQ_exit ?_
    have h := early_ret h k15
    refine blockQ_exit ?_
    exact thenQ_n ⟨(), (), M11, (Option.some.inj h).symm, ⟨hp12, f13, ln14⟩, flr rfl⟩
  ·rintro ⟨⟩ ⟨⟩ M rfl ⟨hp, f, ln⟩
   have h := kont_go k
   refine thenQ_n <| sr (by decide) <| OR 2 rfl <| nt <| aw_ret ?_
   obtain rfl := sI h
   exact done_tmp rfl (.hsn ln) hp
set_option maxHeartbeats 4000000 in
theorem w_slices_Clone_Lint_int_o (vs : (List Int)) (H : Mem) {r : (List Int)} (h : slices_Clone_Lint_int vs = some r) : ACalls Try.prog 21 [.sl 1 (vs.map c_i64) .no] H (fun r' H' => r' = .hs H.length 0 r.length r.length 1 ∧ H' = H ++ [.cells ((r.map c_i64).flatten.map PV.av)]) := by
 unfold slices_Clone_Lint_int at h
 refine ACalls.done (by simp) (fun hB => MBd.newO hB) (Bd_newO _ _) ?_
 refine acalls_walk Try.func21 rfl cl21 (by simp [Try.ntmps21]) (fun hB => ?_)
 refine aw_reb (Reb.of (l := [(0, .sl 1 (vs.map c_i64) .no)]) (by simp [FrL, afr0])) ?_
 have hpre : H <+: H := List.prefix_refl _
 refine sr (by decide) <| OR 1 rfl <| nt <| aw_seq <| sr (by decide) ?_
 refine OR 1 rfl ?_
 refine OpsS_nilT rfl U22 rfl rfl (fun nb hnb => ?_)
 refine nt ?_
 refine aw_test (b := nb) rfl (fun hb => ?_) (fun hb => ?_)
 ·have hr := List.map_eq_nil_iff.1 (hnb hb)
  subst hr
  have h : some ([] : (List Int)) = some r := by simpa [app] using h
  refine sr (by decide) <| OR 1 rfl <| nt <| aw_ret <| thenQ_ret ?_
  obtain rfl := sI h
  exact done_reb rfl (Reb.none1 (t := 2) (z := 1) hB hpre rfl)
 ·refine aw_skip <| thenQ_n <| sr (by decide) <| OD (.sl 1 (([] : (List Int)).map c_i64) .ex) H rfl (o_buildSlice0 (cs := []) (pcs := []) U22 ti3 rfl (by decide) rfl rfl rf) <| OR 1 rfl ?_
  obtain ⟨m, qm, h⟩ := bs h
  obtain ⟨M, hM⟩ := nM (H ++ [(.cells ((m.map c_i64).flatten.map PV.av))])
  obtain ⟨e, he⟩ := nE (H.length)
  refine OD (.hs e 0 m.length m.length 1) M rfl (by rw [he]; exact o_app2 (c := c_i64) (.inl rfl) (src_sl rfl) U22 ti3 rfl (by simp [sliceStr, U22]) qm hM) ?_
  have hp := eqP hM (pre_app hpre)
  have f := nwE hM he
  have lo := loE he hpre
  have ln : m.length = m.length := rfl
  refine OR 1 rfl <| nt <| aw_ret ?_
  obtain rfl := sI h
  exact done_reb rfl (Reb.ownM (t := 2) hB hp f lo rfl)
set_option maxHeartbeats 4000000 in
theorem w_conf_Of (l : (List Int)) (H : Mem) {r : (List Int)} (h : conf_Of l = some r) : ACalls Try.prog 14 [.sl 1 (l.map c_i64) .no] H (fun r' H' => r' = .sl 1 (r.map c_i64) .no ∧ H' = H) := by
 unfold conf_Of at h
 refine ACalls.done0 rfl ?_
 refine acalls_walk Try.func14 rfl cl14 (by simp [Try.ntmps14]) (fun hB => ?_)
 refine aw_reb (Reb.of (l := [(0, .sl 1 (l.map c_i64) .no)]) (by simp [FrL, afr0])) ?_
 have hpre : H <+: H := List.prefix_refl _
 refine sr (by decide) <| OR 1 rfl <| nt <| sr (by decide) <| OR 1 rfl ?_
 obtain ⟨y, q, h⟩ := bs h
 obtain ⟨M, hM⟩ := nM (H ++ [(.cells ((y.map c_i64).flatten.map PV.av))])
 obtain ⟨e, he⟩ := nE (H.length)
 refine OD (.hs e 0 y.length y.length 1) M rfl (by rw [he, hM]; exact o_call (w_slices_Clone_Lint_int_o l H q) ⟨rf, trivial⟩ rf) ?_
 have hp := eqP hM (pre_app hpre)
 have f := nwE hM he
 have lo := loE he hpre
 have ln : y.length = y.length := rfl
 obtain ⟨y1, q2, h⟩ := bs h
 obtain ⟨M3, hM3⟩ := nM (M.set e (.cells ((y1.map c_i64).flatten.map PV.av)))
 refine OD (.hs e 0 y1.length y1.length 1) M3 rfl (by rw [hM3]; exact o_call (w_slices_DeleteFunc_Lint_int e y (fun z0 => conf_Of_1 z0) 24 [] [] M q2 f (fun z0 zr zh zy M hM => w_conf_Of_1 z0 M zh)) ⟨.refl _, .refl _, trivial⟩ rf) ?_
 have ln4 : y1.length = y1.length := rfl
 have f5 := eqM hM3 (get_self f)
 have hp6 := eqP hM3 (pre_hi hp lo)
 refine OR 1 rfl <| nt <| sr (by decide) <| OR 1 rfl ?_
 obtain ⟨y7, q8, h⟩ := bs h
 obtain ⟨⟨⟩, hl, h⟩ := bs h
 obtain ⟨M9, hM9⟩ := nM (M3.set e (.cells ((y7.map c_i64).flatten.map PV.av)))
 refine OD (.tp []) M9 rfl (by rw [hM9]; exact o_call (w_slices_Sort_Lint_int e y1 M3 q8 f5) ⟨.refl _, trivial⟩ rf) ?_
 have ln10 : y7.length = y1.length := (chkl_some hl)
 have f11 := eqM hM9 (get_self f5)
 have hp12 := eqP hM9 (pre_hi hp6 lo)
 refine nt <| sr (by decide) <| OR 1 rfl ?_
 obtain ⟨y13, q14, h⟩ := bs h
 obtain ⟨M15, hM15⟩ := nM (M9.set e (.cells ((y13.map c_i64).flatten.map PV.av)))
 refine OD (.hs e 0 y13.length y13.length 1) M15 rfl (by rw [hM15]; exact o_call (w_slices_Compact_Lint_int e y7 M9 q14 f11) ⟨.hsn ln10, trivial⟩ rf) ?_
 have ln16 : y13.length = y13.length := rfl
 have f17 := eqM hM15 (get_self f11)
 have hp18 := eqP hM15 (pre_hi hp12 lo)
 refine OR 1 rfl <| nt ?_
 obtain ⟨M19, hM19⟩ := nM (M15.set e .dead)
 refine aw_reb (Reb.frz (c := c_i64) (z := 1) (l := y13) (fl := [(2, .sl 1 (y13.map c_i64) .no)]) (fun _ => rfl) (fun _ => rfl) f17 ln16 ⟨.inr ⟨⟨_, rfl⟩, rfl⟩, trivial⟩) ?_
 rw [← hM19]
 have hp20 := eqP hM19 (pre_hi hp18 lo)
 refine aw_ret ?_
 obtain rfl := sI h
 exact done_tmp rfl rf hp20
set_option maxHeartbeats 4000000 in
theorem w_slices_Equal_Lint_int (s1 : (List Int)) (s2 : (List Int)) (H : Mem) {r : Bool} (h : slices_Equal_Lint_int s1 s2 = some r) : ACalls Try.prog 28 [.sl 1 (s1.map c_i64) .no, .sl 1 (s2.map c_i64) .no] H (fun r' H' => r' = kB r ∧ H' = H) := by
 unfold slices_Equal_Lint_int at h
 refine ACalls.done0 rfl ?_
 refine acalls_walk Try.func28 rfl cl28 (by simp [Try.ntmps28]) (fun hB => ?_)
 refine aw_reb (Reb.of (l := [(0, .sl 1 (s1.map c_i64) .no), (1, .sl 1 (s2.map c_i64) .no)]) (by simp [FrL, afr0])) ?_
 have hpre : H <+: H := List.prefix_refl _
 refine sr (by decide) <| OR 1 rfl <| nt <| aw_seq <| sr (by decide) ?_
 refine OR 1 rfl <| OD (kI (s1.length : Int)) H rfl (o_lenL U22 rfl) <| OR 1 rfl <| OD (kI (s2.length : Int)) H rfl (o_lenL U22 rfl) <| OR 1 rfl <| nt ?_
 refine aT h rfl (fun hb h => ?_) (fun hb h => ?_)
 ·refine sr (by decide) <| OR 1 rfl <| nt <| aw_ret <| thenQ_ret ?_
  obtain rfl := sI h
  exact done_tmp rfl rf hpre
 ·refine aw_skip <| thenQ_n <| aw_seq <| sr (by decide) <| OR 1 rfl <| OD (kI (s1.length : Int)) H rfl (o_lenL U22 rfl) <| OR 1 rfl ?_
  refine nt ?_
  obtain ⟨vc, h, k⟩ := kont_some h
  refine aw_tailD (S := Unit) (G := Unit) vc (fun s g => Frm.of []) (fun s g M => H <+: M) ?_ ?_
  ·refine aw_block ?_
   refine aw_loopD (S := Int) (G := Unit) (H1 := H) h (fun s g => Frm.of [(0, .sl 1 (s1.map c_i64) .no), (1, .sl 1 (s2.map c_i64) .no), (12, kI (s1.length : Int)), (13, kI s)]) (fun s g M => H <+: M) () hpre (flr rfl) ?_
   intro t135 g1 M6 vc9 hI h k8
   obtain ⟨⟩ := g1
   have hp7 := hI
   unfold slices_Equal_Lint_int_L1 at h
   refine sr (by decide) <| OR 1 rfl <| nt <| aw_seq ?_
   refine aT h rfl (fun hb10 h => ?_) (fun hb10 h => ?_)
   ·refine aw_skip <| thenQ_n <| aw_seq <| aw_block <| sr (by decide) <| OR 2 rfl <| OpsS_nil ?_
    refine thenQ_n <| aw_seq <| aw_draw mixed [0, 0, 0, 0, 0, 0, 0, 0, 0] (by decide) (by kernel_rfl) <| DR 2 rfl ?_
    obtain ⟨x, qx, h⟩ := bs h
    refine DD0 _ rfl (fun H0 => o_indexAddr (c := c_i64) U22 ti3 rfl rfl qx) <| DD0 (kI x) rfl (fun H0 => o_loadE ag3 ti3 rfl rf) <| DR 2 rfl ?_
    obtain ⟨x11, qx11, h⟩ := bs h
    refine DD0 _ rfl (fun H0 => o_indexAddr (c := c_i64) U22 ti3 rfl rfl qx11) <| DD0 (kI x11) rfl (fun H0 => o_loadE ag3 ti3 rfl rf) <| DR 1 rfl <| DRun_nil <| thenQ_n ?_
    refine aT h rfl (fun hb12 h => ?_) (fun hb12 h => ?_)
    ·refine sr (by decide) <| OR 1 rfl <| nt <| aw_ret <| blockQ_ret <| thenQ_ret ?_
     refine thenQ_ret ?_
     have h := early_ret h k8
     refine blockQ_ret <| thenQ_ret ?_
     have h := early_some h k
     refine thenQ_ret ?_
     obtain rfl := sI h
     exact done_tmp rfl rf hp7
    ·refine aw_skip <| blockQ_n <| thenQ_n <| aw_region (by decide) <| OR 2 rfl <| OpsS_nil ?_
     exact thenQ_n ⟨(w64 (t135 + 1)), (), M6, (Option.some.inj h).symm, hp7, flr rfl⟩
   ·refine aw_exit <| thenQ_exit <| thenQ_exit ?_
    have h := early_ret h k8
    refine blockQ_exit ?_
    exact thenQ_n ⟨(), (), M6, (Option.some.inj h).symm, hp7, Reb.fl trivial⟩
  ·rintro ⟨⟩ ⟨⟩ M rfl hp
   have h := kont_go k
   refine thenQ_n <| sr (by decide) <| OR 1 rfl <| nt <| aw_ret ?_
   obtain rfl := sI h
   exact done_tmp rfl rf hp
set_option maxHeartbeats 4000000 in
theorem w_conf_Right (l : (List Int)) (H : Mem) {r : Bool} (h : conf_Right l = some r) : ACalls Try.prog 15 [.sl 1 (l.map c_i64) .no] H (fun r' H' => r' = kB r ∧ H' = H) := by
 unfold conf_Right at h
 refine ACalls.done0 rfl ?_
 refine acalls_walk Try.func15 rfl cl15 (by simp [Try.ntmps15]) (fun hB => ?_)
 refine aw_reb (Reb.of (l := [(0, .sl 1 (l.map c_i64) .no)]) (by simp [FrL, afr0])) ?_
 have hpre : H <+: H := List.prefix_refl _
 refine sr (by decide) <| OR 1 rfl <| nt ?_
 obtain ⟨t2, h, k⟩ := bs h
 refine aw_joinS (S := Bool) (G := Unit) t2 (fun s g => Frm.of [(2, kB s)]) (fun s g M => H <+: M) ?_ ?_
 ·refine aw_region (by decide) <| OR 1 rfl <| OD (kI (l.length : Int)) H rfl (o_lenL U22 rfl) <| OR 1 rfl ?_
  refine oT h rfl (o_move rf) (fun hg h => ?_) (fun hg h => ?_)
  ·refine OR 2 rfl ?_
   obtain ⟨y, q, h⟩ := bs h
   refine OD (.sl 1 (y.map c_i64) .no) H rfl (o_call (w_conf_Of l H q) ⟨rf, trivial⟩ rf) ?_
   obtain ⟨y1, q2, h⟩ := bs h
   refine OD (kB y1) H rfl (o_call (w_slices_Equal_Lint_int l y H q2) ⟨rf, rf, trivial⟩ rf) <| OR 2 rfl <| OpsS_nil ?_
   obtain rfl := sI h
   exact thenQ_n ⟨(), H, hpre, flr rfl⟩
  ·refine OR 6 rfl <| OpsS_nil ?_
   obtain rfl := sI h
   exact thenQ_n ⟨(), H, hpre, flr rfl⟩
 ·rintro ⟨⟩ M hp
  have h := k
  refine aw_ret ?_
  obtain rfl := sI h
  exact done_tmp rfl rf hp
set_option maxHeartbeats 4000000 in
theorem w_slices_Index_Lint_int (vs : (List Int)) (v : Int) (H : Mem) {r : Int} (h : slices_Index_Lint_int vs v = some r) : ACalls Try.prog 29 [.sl 1 (vs.map c_i64) .no, kI v] H (fun r' H' => r' = kI r ∧ H' = H) := by
 unfold slices_Index_Lint_int at h
 refine ACalls.done0 rfl ?_
 refine acalls_walk Try.func29 rfl cl29 (by simp [Try.ntmps29]) (fun hB => ?_)
 refine aw_reb (Reb.of (l := [(0, .sl 1 (vs.map c_i64) .no), (1, kI v)]) (by simp [FrL, afr0])) ?_
 have hpre : H <+: H := List.prefix_refl _
 refine sr (by decide) <| OR 1 rfl <| nt <| aw_seq <| sr (by decide) ?_
 refine OR 1 rfl <| OD (kI (vs.length : Int)) H rfl (o_lenL U22 rfl) <| OR 1 rfl <| nt ?_
 obtain ⟨vc, h, k⟩ := kont_some h
 refine aw_tailD (S := Unit) (G := Unit) vc (fun s g => Frm.of []) (fun s g M => H <+: M) ?_ ?_
 ·refine aw_block ?_
  refine aw_loopD (S := Int) (G := Unit) (H1 := H) h (fun s g => Frm.of [(0, .sl 1 (vs.map c_i64) .no), (1, kI v), (7, kI (vs.length : Int)), (8, kI s)]) (fun s g M => H <+: M) () hpre (flr rfl) ?_
  intro t85 g1 M6 vc9 hI h k8
  obtain ⟨⟩ := g1
  have hp7 := hI
  unfold slices_Index_Lint_int_L1 at h
  refine sr (by decide) <| OR 1 rfl <| nt <| aw_seq ?_
  refine aT h rfl (fun hb h => ?_) (fun hb h => ?_)
  ·refine aw_skip <| thenQ_n <| aw_seq <| aw_block <| sr (by decide) <| OR 2 rfl <| OpsS_nil ?_
   refine thenQ_n <| sr (by decide) <| OR 3 rfl ?_
   obtain ⟨x, qx, h⟩ := bs h
   refine OD _ M6 rfl (o_indexAddr (c := c_i64) U22 ti3 rfl rfl qx) <| OD (kI x) M6 rfl (o_loadE ag3 ti3 rfl rf) <| OR 1 rfl <| nt ?_
   refine aT h rfl (fun hb10 h => ?_) (fun hb10 h => ?_)
   ·refine sr (by decide) <| OR 2 rfl <| nt <| aw_ret <| blockQ_ret <| thenQ_ret ?_
    refine thenQ_ret ?_
    have h := early_ret h k8
    refine blockQ_ret <| thenQ_ret ?_
    have h := early_some h k
    refine thenQ_ret ?_
    obtain rfl := sI h
    exact done_tmp rfl rf hp7
   ·refine aw_skip <| blockQ_n <| thenQ_n <| aw_region (by decide) <| OR 2 rfl <| OpsS_nil ?_
    exact thenQ_n ⟨(w64 (t85 + 1)), (), M6, (Option.some.inj h).symm, hp7, flr rfl⟩
  ·refine aw_exit <| thenQ_exit <| thenQ_exit ?_
   have h := early_ret h k8
   refine blockQ_exit ?_
   exact thenQ_n ⟨(), (), M6, (Option.some.inj h).symm, hp7, Reb.fl trivial⟩
 ·rintro ⟨⟩ ⟨⟩ M rfl hp
  have h := kont_go k
  refine thenQ_n <| sr (by decide) <| OR 1 rfl <| nt <| aw_ret ?_
  obtain rfl := sI h
  exact done_tmp rfl rf hp
set_option maxHeartbeats 4000000 in
theorem w_slices_Contains_Lint_int (vs : (List Int)) (v : Int) (H : Mem) {r : Bool} (h : slices_Contains_Lint_int vs v = some r) : ACalls Try.prog 19 [.sl 1 (vs.map c_i64) .no, kI v] H (fun r' H' => r' = kB r ∧ H' = H) := by
 unfold slices_Contains_Lint_int at h
 refine ACalls.done0 rfl ?_
 refine acalls_walk Try.func19 rfl cl19 (by simp [Try.ntmps19]) (fun hB => ?_)
 refine aw_reb (Reb.of (l := [(0, .sl 1 (vs.map c_i64) .no), (1, kI v)]) (by simp [FrL, afr0])) ?_
 have hpre : H <+: H := List.prefix_refl _
 refine sr (by decide) <| OR 1 rfl <| nt <| sr (by decide) <| OR 2 rfl ?_
 obtain ⟨y, q, h⟩ := bs h
 refine OD (kI y) H rfl (o_call (w_slices_Index_Lint_int vs v H q) ⟨rf, rf, trivial⟩ rf) <| OR 2 rfl <| nt <| aw_ret ?_
 obtain rfl := sI h
 exact done_tmp rfl rf hpre
set_option maxHeartbeats 4000000 in
theorem w_conf_Has (l : (List Int)) (n : Int) (H : Mem) {r : Bool} (h : conf_Has l n = some r) : ACalls Try.prog 7 [.sl 1 (l.map c_i64) .no, kI n] H (fun r' H' => r' = kB r ∧ H' = H) := by
 unfold conf_Has at h
 refine ACalls.done0 rfl ?_
 refine acalls_walk Try.func7 rfl cl7 (by simp [Try.ntmps7]) (fun hB => ?_)
 refine aw_reb (Reb.of (l := [(0, .sl 1 (l.map c_i64) .no), (1, kI n)]) (by simp [FrL, afr0])) ?_
 have hpre : H <+: H := List.prefix_refl _
 refine sr (by decide) <| OR 1 rfl <| nt <| sr (by decide) <| OR 2 rfl ?_
 obtain ⟨y, q, h⟩ := bs h
 refine OD (kB y) H rfl (o_call (w_slices_Contains_Lint_int l n H q) ⟨rf, rf, trivial⟩ rf) <| OR 1 rfl <| nt <| aw_ret ?_
 obtain rfl := sI h
 exact done_tmp rfl rf hpre
set_option maxHeartbeats 4000000 in
theorem w_conf_Most (l : (List Int)) (yes : (List Int)) (H : Mem) {r : Bool} (h : conf_Most l yes = some r) : ACalls Try.prog 17 [.sl 1 (l.map c_i64) .no, .sl 1 (yes.map c_i64) .no] H (fun r' H' => r' = kB r ∧ H' = H) := by
 unfold conf_Most at h
 refine ACalls.done0 rfl ?_
 refine acalls_walk Try.func17 rfl cl17 (by simp [Try.ntmps17]) (fun hB => ?_)
 refine aw_reb (Reb.of (l := [(0, .sl 1 (l.map c_i64) .no), (1, .sl 1 (yes.map c_i64) .no)]) (by simp [FrL, afr0])) ?_
 have hpre : H <+: H := List.prefix_refl _
 refine sr (by decide) <| OR 1 rfl <| nt <| sr (by decide) <| OR 1 rfl ?_
 refine nt <| sr (by decide) <| OR 1 rfl ?_
 obtain ⟨y, q, h⟩ := bs h
 refine OD (.sl 1 (y.map c_i64) .no) H rfl (o_call (w_conf_Of l H q) ⟨rf, trivial⟩ rf) <| OR 1 rfl <| nt <| aw_seq <| sr (by decide) <| OR 1 rfl ?_
 refine OD (kI (y.length : Int)) H rfl (o_lenL U22 rfl) <| OR 1 rfl <| nt ?_
 obtain ⟨n, h, k⟩ := bs h
 refine aw_tailS (S := Int) (G := Unit) n (fun s g => Frm.of [(5, kI s), (6, .sl 1 (y.map c_i64) .no)]) (fun s g M => H <+: M) ?_ ?_
 ·refine aw_block ?_
  refine aw_loopD (S := (Int × Int)) (G := Unit) (H1 := H) h (fun s g => Frm.of [(1, .sl 1 (yes.map c_i64) .no), (5, kI s.1), (6, .sl 1 (y.map c_i64) .no), (11, .sl 1 (y.map c_i64) .no), (12, kI (y.length : Int)), (13, kI s.2)]) (fun s g M => H <+: M) () hpre (flr rfl) ?_
  intro s1 g1 M8 vc hI h k10
  obtain ⟨n6, t137⟩ := s1
  obtain ⟨⟩ := g1
  have hp9 := hI
  unfold conf_Most_L1 at h
  refine sr (by decide) <| OR 1 rfl <| nt <| aw_seq ?_
  refine aT h rfl (fun hb h => ?_) (fun hb h => ?_)
  ·refine aw_skip <| thenQ_n ?_
   obtain ⟨n11, h, k14⟩ := bs h
   refine aw_joinS (S := Int) (G := Unit) n11 (fun s g => Frm.of [(1, .sl 1 (yes.map c_i64) .no), (5, kI s), (6, .sl 1 (y.map c_i64) .no), (11, .sl 1 (y.map c_i64) .no), (12, kI (y.length : Int)), (13, kI t137)]) (fun s g M => H <+: M) ?_ ?_
   ·refine aw_block <| sr (by decide) ?_
    obtain ⟨x, qx, h⟩ := bs h
    refine OD _ M8 rfl (o_indexAddr (c := c_i64) U22 ti3 rfl rfl qx) <| OD (kI x) M8 rfl (o_loadE ag3 ti3 rfl rf) <| OR 1 rfl <| nt <| sr (by decide) <| OR 2 rfl ?_
    obtain ⟨y15, q16, h⟩ := bs h
    refine OD (kB y15) M8 rfl (o_call (w_conf_Has yes x M8 q16) ⟨rf, rf, trivial⟩ rf) <| nt ?_
    refine aT h rfl (fun hb17 h => ?_) (fun hb17 h => ?_)
    ·refine aw_region (by decide) <| OR 3 rfl <| OpsS_nil <| blockQ_n ?_
     obtain rfl := sI h
     exact thenQ_n ⟨(), M8, hp9, flr rfl⟩
    ·refine aw_skip <| blockQ_n ?_
     obtain rfl := sI h
     exact thenQ_n ⟨(), M8, hp9, flr rfl⟩
   ·rintro ⟨⟩ M12 hp13
    have h := k14
    refine aw_region (by decide) <| OR 2 rfl <| OpsS_nil ?_
    exact thenQ_n ⟨(n11, (w64 (t137 + 1))), (), M12, (Option.some.inj h).symm, hp13, flr rfl⟩
  ·refine aw_exit <| thenQ_exit <| thenQ_exit ?_
   have h := early_ret h k10
   refine blockQ_exit ?_
   obtain rfl := sI h
   exact thenQ_n ⟨(), M8, hp9, flr rfl⟩
 ·rintro ⟨⟩ M hp
  have h := k
  refine thenQ_n <| sr (by decide) <| OR 3 rfl <| OD (kI (y.length : Int)) M rfl (o_lenL U22 rfl) <| OR 2 rfl <| nt ?_
  refine aw_ret ?_
  obtain rfl := sI h
  exact done_tmp rfl rf hp
set_option maxHeartbeats 4000000 in
theorem w_slices_Clone_Lint_int_t (vs : (List Int)) (H : Mem) {r : (List Int)} (h : slices_Clone_Lint_int vs = some r) : ACalls Try.prog 21 [.sl 1 (vs.map c_i64) .no] H (fun r' H' => r' = .sl 1 (r.map c_i64) (.tk H.length) ∧ H' = H ++ [.tok]) := by
 unfold slices_Clone_Lint_int at h
 refine ACalls.done (by simp) (fun hB => MBd.newT hB) (Bd_newT _ _ _) ?_
 refine acalls_walk Try.func21 rfl cl21 (by simp [Try.ntmps21]) (fun hB => ?_)
 refine aw_reb (Reb.of (l := [(0, .sl 1 (vs.map c_i64) .no)]) (by simp [FrL, afr0])) ?_
 have hpre : H <+: H := List.prefix_refl _
 refine sr (by decide) <| OR 1 rfl <| nt <| aw_seq <| sr (by decide) ?_
 refine OR 1 rfl ?_
 refine OpsS_nilT rfl U22 rfl rfl (fun nb hnb => ?_)
 refine nt ?_
 refine aw_test (b := nb) rfl (fun hb => ?_) (fun hb => ?_)
 ·have hr := List.map_eq_nil_iff.1 (hnb hb)
  subst hr
  have h : some ([] : (List Int)) = some r := by simpa [app] using h
  refine sr (by decide) <| OR 1 rfl <| nt <| aw_ret <| thenQ_ret ?_
  obtain rfl := sI h
  exact done_reb rfl (Reb.trans (Reb.void (l := [(2, .sl 1 (([] : (List Int)).map c_i64) (.tk H.length))]) ⟨.nil _ _, trivial⟩) (Reb.tokM (t := 2) hB (pre_app hpre) get_new (pre_len hpre) rfl))
 ·refine aw_skip <| thenQ_n <| sr (by decide) <| OD (.sl 1 (([] : (List Int)).map c_i64) .ex) H rfl (o_buildSlice0 (cs := []) (pcs := []) U22 ti3 rfl (by decide) rfl rfl rf) <| OR 1 rfl ?_
  obtain ⟨m, qm, h⟩ := bs h
  obtain ⟨M, hM⟩ := nM (H ++ [.tok])
  obtain ⟨e, he⟩ := nE (H.length)
  refine OD (.sl 1 (m.map c_i64) (.tk e)) M rfl (by rw [he]; exact o_app1 (c := c_i64) (.inl rfl) (src_sl rfl) U22 ti3 rfl (by simp [sliceStr, U22]) qm hM) ?_
  have hp := eqP hM (pre_app hpre)
  have f := nwE hM he
  have lo := loE he hpre
  refine OR 1 rfl <| nt <| aw_ret ?_
  obtain rfl := sI h
  exact done_reb rfl (Reb.tokM (t := 2) hB hp f lo rfl)
set_option maxHeartbeats 4000000 in
theorem w_conf_With (l : (List Int)) (n : Int) (H : Mem) {r : (List Int)} (h : conf_With l n = some r) : ACalls Try.prog 10 [.sl 1 (l.map c_i64) .no, kI n] H (fun r' H' => r' = .sl 1 (r.map c_i64) .no ∧ H' = H) := by
 unfold conf_With at h
 refine ACalls.done0 rfl ?_
 refine acalls_walk Try.func10 rfl cl10 (by simp [Try.ntmps10]) (fun hB => ?_)
 refine aw_reb (Reb.of (l := [(0, .sl 1 (l.map c_i64) .no), (1, kI n)]) (by simp [FrL, afr0])) ?_
 have hpre : H <+: H := List.prefix_refl _
 refine sr (by decide) <| OR 1 rfl <| nt <| sr (by decide) <| OR 1 rfl ?_
 obtain ⟨y, q, h⟩ := bs h
 obtain ⟨M, hM⟩ := nM (H ++ [.tok])
 obtain ⟨e, he⟩ := nE (H.length)
 refine OD (.sl 1 (y.map c_i64) (.tk e)) M rfl (by rw [he, hM]; exact o_call (w_slices_Clone_Lint_int_t l H q) ⟨rf, trivial⟩ rf) ?_
 have hp := eqP hM (pre_app hpre)
 have f := nwE hM he
 have lo := loE he hpre
 refine OR 1 rfl <| OD (.sl 1 (([n] : (List Int)).map c_i64) .ex) M rfl (o_buildSlice0 (cs := [kI n]) (pcs := [.sc (.int .i64 n)]) U22 ti3 rfl (by decide) rfl rfl rf) ?_
 obtain ⟨m, qm, h⟩ := bs h
 obtain ⟨M1, hM1⟩ := nM (M.set e .dead ++ [.tok])
 obtain ⟨e2, he2⟩ := nE (M.length)
 refine OD (.sl 1 (m.map c_i64) (.tk e2)) M1 rfl (by rw [he2]; exact o_appT (c := c_i64) rfl f (src_sl rfl) U22 ti3 rfl (by simp [sliceStr, U22]) qm hM1) ?_
 have hp3 := eqP hM1 (pre_app (pre_hi hp lo))
 have f4 : M1[e2]? = some .tok := by rw [hM1, he2]; exact get_new2
 have lo5 := loE he2 hp
 obtain ⟨y6, q7, h⟩ := bs h
 refine OD (.sl 1 (y6.map c_i64) .no) M1 rfl (o_call (w_conf_Of m M1 q7) ⟨(.no _ _ _), trivial⟩ rf) <| OR 1 rfl <| nt <| aw_ret ?_
 obtain rfl := sI h
 exact done_tmp rfl rf hp3
set_option maxHeartbeats 4000000 in
theorem w_conf_Without_1 (x : Int) (pa1 : Nat) (a1 : Int) (H : Mem) {r : Bool} (h : conf_Without_1 x a1 = some r) (fpa10 : H[pa1]? = some (.cells [kI a1])) : ACalls Try.prog 23 [kI x, .pt pa1 0] H (fun r' H' => r' = kB r ∧ H' = H) := by
 unfold conf_Without_1 at h
 refine ACalls.done0 rfl ?_
 refine acalls_walk Try.func23 rfl cl23 (by simp [Try.ntmps23]) (fun hB => ?_)
 refine aw_reb (Reb.of (l := [(0, kI x), (1, .pt pa1 0)]) (by simp [FrL, afr0])) ?_
 have fpa1 := fpa10
 have hpre : H <+: H := List.prefix_refl _
 refine sr (by decide) <| OR 1 rfl <| nt <| sr (by decide) <| OR 1 rfl ?_
 refine OD _ H rfl (o_loadP ag3 ti3 rfl fpa1 rfl rf) <| OR 2 rfl <| nt <| aw_ret ?_
 obtain rfl := sI h
 exact done_tmp rfl rf hpre
set_option maxHeartbeats 4000000 in
theorem w_conf_Of_o (l : (List Int)) (H : Mem) {r : (List Int)} (h : conf_Of l = some r) : ACalls Try.prog 14 [.sl 1 (l.map c_i64) .no] H (fun r' H' => r' = .hs H.length 0 r.length r.length 1 ∧ H' = H ++ [.cells ((r.map c_i64).flatten.map PV.av)]) := by
 unfold conf_Of at h
 refine ACalls.done (by simp) (fun hB => MBd.newO hB) (Bd_newO _ _) ?_
 refine acalls_walk Try.func14 rfl cl14 (by simp [Try.ntmps14]) (fun hB => ?_)
 refine aw_reb (Reb.of (l := [(0, .sl 1 (l.map c_i64) .no)]) (by simp [FrL, afr0])) ?_
 have hpre : H <+: H := List.prefix_refl _
 refine sr (by decide) <| OR 1 rfl <| nt <| sr (by decide) <| OR 1 rfl ?_
 obtain ⟨y, q, h⟩ := bs h
 obtain ⟨M, hM⟩ := nM (H ++ [(.cells ((y.map c_i64).flatten.map PV.av))])
 obtain ⟨e, he⟩ := nE (H.length)
 refine OD (.hs e 0 y.length y.length 1) M rfl (by rw [he, hM]; exact o_call (w_slices_Clone_Lint_int_o l H q) ⟨rf, trivial⟩ rf) ?_
 have hp := eqP hM (pre_app hpre)
 have f := nwE hM he
 have lo := loE he hpre
 have ln : y.length = y.length := rfl
 obtain ⟨y1, q2, h⟩ := bs h
 obtain ⟨M3, hM3⟩ := nM (M.set e (.cells ((y1.map c_i64).flatten.map PV.av)))
 refine OD (.hs e 0 y1.length y1.length 1) M3 rfl (by rw [hM3]; exact o_call (w_slices_DeleteFunc_Lint_int e y (fun z0 => conf_Of_1 z0) 24 [] [] M q2 f (fun z0 zr zh zy M hM => w_conf_Of_1 z0 M zh)) ⟨.refl _, .refl _, trivial⟩ rf) ?_
 have ln4 : y1.length = y1.length := rfl
 have f5 := eqM hM3 (get_self f)
 have hp6 := eqP hM3 (pre_hi hp lo)
 refine OR 1 rfl <| nt <| sr (by decide) <| OR 1 rfl ?_
 obtain ⟨y7, q8, h⟩ := bs h
 obtain ⟨⟨⟩, hl, h⟩ := bs h
 obtain ⟨M9, hM9⟩ := nM (M3.set e (.cells ((y7.map c_i64).flatten.map PV.av)))
 refine OD (.tp []) M9 rfl (by rw [hM9]; exact o_call (w_slices_Sort_Lint_int e y1 M3 q8 f5) ⟨.refl _, trivial⟩ rf) ?_
 have ln10 : y7.length = y1.length := (chkl_some hl)
 have f11 := eqM hM9 (get_self f5)
 have hp12 := eqP hM9 (pre_hi hp6 lo)
 refine nt <| sr (by decide) <| OR 1 rfl ?_
 obtain ⟨y13, q14, h⟩ := bs h
 obtain ⟨M15, hM15⟩ := nM (M9.set e (.cells ((y13.map c_i64).flatten.map PV.av)))
 refine OD (.hs e 0 y13.length y13.length 1) M15 rfl (by rw [hM15]; exact o_call (w_slices_Compact_Lint_int e y7 M9 q14 f11) ⟨.hsn ln10, trivial⟩ rf) ?_
 have ln16 : y13.length = y13.length := rfl
 have f17 := eqM hM15 (get_self f11)
 have hp18 := eqP hM15 (pre_hi hp12 lo)
 refine OR 1 rfl <| nt <| aw_ret ?_
 obtain rfl := sI h
 exact done_reb rfl (Reb.ownM (t := 2) hB hp18 f17 lo rfl)
set_option maxHeartbeats 4000000 in
theorem w_conf_Without (l : (List Int)) (n : Int) (H : Mem) {r : (List Int)} (h : conf_Without l n = some r) : ACalls Try.prog 12 [.sl 1 (l.map c_i64) .no, kI n] H (fun r' H' => r' = .sl 1 (r.map c_i64) .no ∧ H' = H) := by
 unfold conf_Without at h
 refine ACalls.done0 rfl ?_
 refine acalls_walk Try.func12 rfl cl12 (by simp [Try.ntmps12]) (fun hB => ?_)
 refine aw_reb (Reb.of (l := [(0, .sl 1 (l.map c_i64) .no), (1, kI n)]) (by simp [FrL, afr0])) ?_
 have hpre : H <+: H := List.prefix_refl _
 refine sr (by decide) ?_
 obtain ⟨M, hM⟩ := nM (H ++ [(.cells [kI n])])
 obtain ⟨e, he⟩ := nE (H.length)
 refine OD (.pt e 0) M rfl (by rw [he]; exact o_box rfl hM) ?_
 have hp := eqP hM (pre_app hpre)
 have f := nwE hM he
 have lo := loE he hpre
 refine OR 1 rfl <| nt <| sr (by decide) <| OR 1 rfl ?_
 obtain ⟨y, q, h⟩ := bs h
 obtain ⟨M1, hM1⟩ := nM (M ++ [(.cells ((y.map c_i64).flatten.map PV.av))])
 obtain ⟨e2, he2⟩ := nE (M.length)
 refine OD (.hs e2 0 y.length y.length 1) M1 rfl (by rw [he2, hM1]; exact o_call (w_conf_Of_o l M q) ⟨rf, trivial⟩ rf) ?_
 have ne := neE he2 f
 have f3 := eqM hM1 (get_app f)
 have hp4 := eqP hM1 (pre_app hp)
 have f5 := nwE hM1 he2
 have lo6 := loE he2 hp
 have ln : y.length = y.length := rfl
 refine OD (.fn (.func 23) [] [.pt e 0]) M1 rfl (o_makeFunc rfl rfl) ?_
 obtain ⟨y7, q8, h⟩ := bs h
 obtain ⟨M9, hM9⟩ := nM (M1.set e2 (.cells ((y7.map c_i64).flatten.map PV.av)))
 refine OD (.hs e2 0 y7.length y7.length 1) M9 rfl (by rw [hM9]; exact o_call (w_slices_DeleteFunc_Lint_int e2 y (fun z0 => conf_Without_1 z0 n) 23 [] [.pt e 0] M1 q8 f5 (fun z0 zr zh zy M hM => w_conf_Without_1 z0 e n M zh (pre_get hM (get_ne ne f3)))) ⟨.refl _, .refl _, trivial⟩ rf) ?_
 have ln10 : y7.length = y7.length := rfl
 have f11 := eqM hM9 (get_ne ne f3)
 have f12 := eqM hM9 (get_self f5)
 have hp13 := eqP hM9 (pre_hi hp4 lo6)
 refine OR 1 rfl <| nt ?_
 obtain ⟨M14, hM14⟩ := nM (M9.set e2 .dead)
 refine aw_reb (Reb.frz (c := c_i64) (z := 1) (l := y7) (fl := [(4, .sl 1 (y7.map c_i64) .no)]) (fun _ => rfl) (fun _ => rfl) f12 ln10 ⟨.inr ⟨⟨_, rfl⟩, rfl⟩, trivial⟩) ?_
 rw [← hM14]
 have f15 := eqM hM14 (get_ne ne f11)
 have hp16 := eqP hM14 (pre_hi hp13 lo6)
 refine aw_ret ?_
 obtain rfl := sI h
 exact done_tmp rfl rf hp16
set_option maxHeartbeats 4000000 in
theorem w_mementolaw6_known (H : Mem) {r : Bool} (h : mementolaw6_known = some r) : ACalls Try.prog 4 [] H (fun r' H' => r' = kB r ∧ H' = H) := by
 unfold mementolaw6_known at h
 refine ACalls.done0 rfl ?_
 refine acalls_walk Try.func4 rfl cl4 (by simp [Try.ntmps4]) (fun hB => ?_)
 refine aw_reb (Reb.of (l := []) (by simp [FrL, afr0])) ?_
 have hpre : H <+: H := List.prefix_refl _
 refine sr (by decide) <| OR 1 rfl <| nt <| sr (by decide) <| OD (.sl 1 (([2, 0, 9, 2, 1] : (List Int)).map c_i64) .ex) H rfl (o_buildSlice0 (cs := [kI 2, kI 0, kI 9, kI 2, kI 1]) (pcs := [.sc (.int .i64 2), .sc (.int .i64 0), .sc (.int .i64 9), .sc (.int .i64 2), .sc (.int .i64 1)]) U22 ti3 rfl (by decide) rfl rfl rf) ?_
 obtain ⟨y, q, h⟩ := bs h
 refine OD (.sl 1 (y.map c_i64) .no) H rfl (o_call (w_conf_Of ([2, 0, 9, 2, 1] : (List Int)) H q) ⟨(.no _ _ _), trivial⟩ rf) <| OR 1 rfl <| nt ?_
 obtain ⟨t0, h, k⟩ := bs h
 refine aw_joinS (S := Bool) (G := Unit) t0 (fun s g => Frm.of [(0, kB s)]) (fun s g M => H <+: M) ?_ ?_
 ·refine aw_region (by decide) <| OR 1 rfl <| OD (kI (y.length : Int)) H rfl (o_lenL U22 rfl) <| OR 1 rfl ?_
  refine oT h rfl (o_move rf) (fun hg h => ?_) (fun hg h => ?_)
  ·refine OR 1 rfl ?_
   obtain ⟨x, qx, h⟩ := bs h
   refine OD _ H rfl (o_indexAddr (c := c_i64) U22 ti3 rfl rfl qx) <| OD (kI x) H rfl (o_loadE ag3 ti3 rfl rf) <| OR 2 rfl ?_
   refine oT h rfl (o_move rf) (fun hg1 h => ?_) (fun hg1 h => ?_)
   ·refine OR 1 rfl ?_
    obtain ⟨x2, qx2, h⟩ := bs h
    refine OD _ H rfl (o_indexAddr (c := c_i64) U22 ti3 rfl rfl qx2) <| OD (kI x2) H rfl (o_loadE ag3 ti3 rfl rf) <| OR 2 rfl ?_
    refine oT h rfl (o_move rf) (fun hg3 h => ?_) (fun hg3 h => ?_)
    ·refine OR 1 rfl ?_
     obtain ⟨y4, q5, h⟩ := bs h
     refine OD (kB y4) H rfl (o_call (w_conf_Right y H q5) ⟨rf, trivial⟩ rf) <| OR 1 rfl ?_
     refine oT h rfl (o_move rf) (fun hg6 h => ?_) (fun hg6 h => ?_)
     ·obtain ⟨y7, q8, h⟩ := bs h
      refine OD (kB y7) H rfl (o_call (w_conf_Right ([] : (List Int)) H q8) ⟨(.nil _), trivial⟩ rf) <| OR 2 rfl ?_
      refine oT h rfl (o_move rf) (fun hg9 h => ?_) (fun hg9 h => ?_)
      ·refine OR 1 rfl <| OD (.sl 1 (([0, 2] : (List Int)).map c_i64) .ex) H rfl (o_buildSlice0 (cs := [kI 0, kI 2]) (pcs := [.sc (.int .i64 0), .sc (.int .i64 2)]) U22 ti3 rfl (by decide) rfl rfl rf) ?_
       obtain ⟨y10, q11, h⟩ := bs h
       refine OD (kB y10) H rfl (o_call (w_conf_Most y ([0, 2] : (List Int)) H q11) ⟨rf, (.no _ _ _), trivial⟩ rf) <| OR 1 rfl ?_
       refine oT h rfl (o_move rf) (fun hg12 h => ?_) (fun hg12 h => ?_)
       ·refine OR 1 rfl <| OD (.sl 1 (([1] : (List Int)).map c_i64) .ex) H rfl (o_buildSlice0 (cs := [kI 1]) (pcs := [.sc (.int .i64 1)]) U22 ti3 rfl (by decide) rfl rfl rf) ?_
        obtain ⟨y13, q14, h⟩ := bs h
        refine OD (kB y13) H rfl (o_call (w_conf_Most y ([1] : (List Int)) H q14) ⟨rf, (.no _ _ _), trivial⟩ rf) <| OR 2 rfl ?_
        refine oT h rfl (o_move rf) (fun hg15 h => ?_) (fun hg15 h => ?_)
        ·obtain ⟨y16, q17, h⟩ := bs h
         refine OD (kB y16) H rfl (o_call (w_conf_Most ([] : (List Int)) ([] : (List Int)) H q17) ⟨(.nil _), (.nil _), trivial⟩ rf) <| OR 2 rfl ?_
         refine oT h rfl (o_move rf) (fun hg18 h => ?_) (fun hg18 h => ?_)
         ·refine OR 1 rfl ?_
          obtain ⟨y19, q20, h⟩ := bs h
          refine OD (.sl 1 (y19.map c_i64) .no) H rfl (o_call (w_conf_With y 5 H q20) ⟨rf, rf, trivial⟩ rf) <| OD (kI (y19.length : Int)) H rfl (o_lenL U22 rfl) <| OR 2 rfl ?_
          refine oT h rfl (o_move rf) (fun hg21 h => ?_) (fun hg21 h => ?_)
          ·refine OR 1 rfl ?_
           obtain ⟨y22, q23, h⟩ := bs h
           refine OD (.sl 1 (y22.map c_i64) .no) H rfl (o_call (w_conf_Without y 0 H q23) ⟨rf, rf, trivial⟩ rf) <| OD (kI (y22.length : Int)) H rfl (o_lenL U22 rfl) <| OR 2 rfl ?_
           refine oT h rfl (o_move rf) (fun hg24 h => ?_) (fun hg24 h => ?_)
           ·refine OR 1 rfl ?_
            obtain ⟨y25, q26, h⟩ := bs h
            refine OD (kB y25) H rfl (o_call (w_conf_Has y 1 H q26) ⟨rf, rf, trivial⟩ rf) <| OR 2 rfl <| OpsS_nil ?_
            obtain rfl := sI h
            exact thenQ_n ⟨(), H, hpre, flr rfl⟩
           ·refine OR 4 rfl <| OpsS_nil ?_
            obtain rfl := sI h
            exact thenQ_n ⟨(), H, hpre, flr rfl⟩
          ·refine OR 10 rfl <| OpsS_nil ?_
           obtain rfl := sI h
           exact thenQ_n ⟨(), H, hpre, flr rfl⟩
         ·refine OR 16 rfl <| OpsS_nil ?_
          obtain rfl := sI h
          exact thenQ_n ⟨(), H, hpre, flr rfl⟩
        ·refine OR 20 rfl <| OpsS_nil ?_
         obtain rfl := sI h
         exact thenQ_n ⟨(), H, hpre, flr rfl⟩
       ·refine OR 26 rfl <| OpsS_nil ?_
        obtain rfl := sI h
        exact thenQ_n ⟨(), H, hpre, flr rfl⟩
      ·refine OR 31 rfl <| OpsS_nil ?_
       obtain rfl := sI h
       exact thenQ_n ⟨(), H, hpre, flr rfl⟩
     ·refine OR 35 rfl <| OpsS_nil ?_
      obtain rfl := sI h
      exact thenQ_n ⟨(), H, hpre, flr rfl⟩
    ·refine OR 39 rfl <| OpsS_nil ?_
     obtain rfl := sI h
     exact thenQ_n ⟨(), H, hpre, flr rfl⟩
   ·refine OR 45 rfl <| OpsS_nil ?_
    obtain rfl := sI h
    exact thenQ_n ⟨(), H, hpre, flr rfl⟩
  ·refine OR 51 rfl <| OpsS_nil ?_
   obtain rfl := sI h
   exact thenQ_n ⟨(), H, hpre, flr rfl⟩
 ·rintro ⟨⟩ M hp
  have h := k
  refine aw_ret ?_
  obtain rfl := sI h
  exact done_tmp rfl rf hp
set_option maxHeartbeats 4000000 in
theorem w_mementohelp_Place (k : Int) (n : Int) (H : Mem) {r : Int} (h : mementohelp_Place k n = some r) : ACalls Try.prog 5 [kI k, kI n] H (fun r' H' => r' = kI r ∧ H' = H) := by
 unfold mementohelp_Place at h
 refine ACalls.done0 rfl ?_
 refine acalls_walk Try.func5 rfl cl5 (by simp [Try.ntmps5]) (fun hB => ?_)
 refine aw_reb (Reb.of (l := [(0, kI k), (1, kI n)]) (by simp [FrL, afr0])) ?_
 have hpre : H <+: H := List.prefix_refl _
 refine sr (by decide) <| OR 1 rfl <| nt <| sr (by decide) <| OR 2 rfl ?_
 obtain ⟨x, qx, h⟩ := bs h
 refine OD (kI x) H rfl (o_rem rfl rfl qx) <| OR 1 rfl <| nt <| aw_seq <| sr (by decide) <| OR 2 rfl ?_
 refine nt ?_
 obtain ⟨k1, h, k2⟩ := bs h
 refine aw_tailS (S := Int) (G := Unit) k1 (fun s g => Frm.of [(0, kI s)]) (fun s g M => H <+: M) ?_ ?_
 ·refine aT h rfl (fun hb h => ?_) (fun hb h => ?_)
  ·refine aw_region (by decide) <| OR 4 rfl <| OpsS_nil ?_
   obtain rfl := sI h
   exact thenQ_n ⟨(), H, hpre, flr rfl⟩
  ·refine aw_skip ?_
   obtain rfl := sI h
   exact thenQ_n ⟨(), H, hpre, flr rfl⟩
 ·rintro ⟨⟩ M hp
  have h := k2
  refine thenQ_n <| sr (by decide) <| OR 2 rfl <| nt <| aw_ret ?_
  obtain rfl := sI h
  exact done_tmp rfl rf hp
set_option maxHeartbeats 4000000 in
theorem w_mementoref6_Has (l : (List Int)) (n : Int) (H : Mem) {r : Bool} (h : mementoref6_Has l n = some r) : ACalls Try.prog 8 [.sl 1 (l.map c_i64) .no, kI n] H (fun r' H' => r' = kB r ∧ H' = H) := by
 unfold mementoref6_Has at h
 refine ACalls.done0 rfl ?_
 refine acalls_walk Try.func8 rfl cl8 (by simp [Try.ntmps8]) (fun hB => ?_)
 refine aw_reb (Reb.of (l := [(0, .sl 1 (l.map c_i64) .no), (1, kI n)]) (by simp [FrL, afr0])) ?_
 have hpre : H <+: H := List.prefix_refl _
 refine sr (by decide) <| OR 1 rfl <| nt <| aw_seq <| sr (by decide) ?_
 refine OR 1 rfl <| nt ?_
 obtain ⟨vc, h, k⟩ := kont_some h
 refine aw_tailD (S := Unit) (G := Unit) vc (fun s g => Frm.of []) (fun s g M => H <+: M) ?_ ?_
 ·refine aw_block ?_
  refine aw_loopD (S := Int) (G := Unit) (H1 := H) h (fun s g => Frm.of [(0, .sl 1 (l.map c_i64) .no), (1, kI n), (5, kI s)]) (fun s g M => H <+: M) () hpre (flr rfl) ?_
  intro i5 g1 M6 vc9 hI h k8
  obtain ⟨⟩ := g1
  have hp7 := hI
  unfold mementoref6_Has_L1 at h
  refine aw_seq <| sr (by decide) <| OR 2 rfl <| OD (kI (l.length : Int)) M6 rfl (o_lenL U22 rfl) <| OR 1 rfl <| nt ?_
  refine aT h rfl (fun hb h => ?_) (fun hb h => ?_)
  ·refine aw_skip <| thenQ_n <| aw_seq <| aw_block <| sr (by decide) <| OR 2 rfl ?_
   obtain ⟨x, qx, h⟩ := bs h
   refine OD _ M6 rfl (o_indexAddr (c := c_i64) U22 ti3 rfl rfl qx) <| OD (kI x) M6 rfl (o_loadE ag3 ti3 rfl rf) <| OR 2 rfl <| nt ?_
   refine aT h rfl (fun hb10 h => ?_) (fun hb10 h => ?_)
   ·refine sr (by decide) <| OR 1 rfl <| nt <| aw_ret <| blockQ_ret <| thenQ_ret ?_
    refine thenQ_ret ?_
    have h := early_ret h k8
    refine blockQ_ret <| thenQ_ret ?_
    have h := early_some h k
    refine thenQ_ret ?_
    obtain rfl := sI h
    exact done_tmp rfl rf hp7
   ·refine aw_skip <| blockQ_n <| thenQ_n <| aw_region (by decide) <| OR 3 rfl <| OpsS_nil ?_
    exact thenQ_n ⟨(w64 (i5 + 1)), (), M6, (Option.some.inj h).symm, hp7, flr rfl⟩
  ·refine aw_exit <| thenQ_exit <| thenQ_exit ?_
   have h := early_ret h k8
   refine blockQ_exit ?_
   exact thenQ_n ⟨(), (), M6, (Option.some.inj h).symm, hp7, Reb.fl trivial⟩
 ·rintro ⟨⟩ ⟨⟩ M rfl hp
  have h := kont_go k
  refine thenQ_n <| sr (by decide) <| OR 1 rfl <| nt <| aw_ret ?_
  obtain rfl := sI h
  exact done_tmp rfl rf hp
set_option maxHeartbeats 4000000 in
theorem w_mementoref6_Of (l : (List Int)) (H : Mem) {r : (List Int)} (h : mementoref6_Of l = some r) : ACalls Try.prog 6 [.sl 1 (l.map c_i64) .no] H (fun r' H' => r' = .sl 1 (r.map c_i64) .no ∧ H' = H) := by
 unfold mementoref6_Of at h
 refine ACalls.done0 rfl ?_
 refine acalls_walk Try.func6 rfl cl6 (by simp [Try.ntmps6]) (fun hB => ?_)
 refine aw_reb (Reb.of (l := [(0, .sl 1 (l.map c_i64) .no)]) (by simp [FrL, afr0])) ?_
 have hpre : H <+: H := List.prefix_refl _
 refine sr (by decide) <| OR 1 rfl <| nt <| sr (by decide) <| OR 1 rfl ?_
 refine nt <| aw_seq <| sr (by decide) <| OR 1 rfl <| nt ?_
 obtain ⟨out, h, k⟩ := bs h
 refine aw_tailS (S := (List Int)) (G := Nat) out (fun s g => Frm.of [(3, .sl 1 (s.map c_i64) (.tk g))]) (fun s g M => H <+: M ∧ M[g]? = some .tok ∧ H.length ≤ g) ?_ ?_
 ·refine aw_block ?_
  refine aw_loopD (S := ((List Int) × Int)) (G := Nat) (H1 := (H ++ [Ent.tok])) h (fun s g => Frm.of [(0, .sl 1 (l.map c_i64) .no), (3, .sl 1 (s.1.map c_i64) (.tk g)), (4, kI s.2)]) (fun s g M => H <+: M ∧ M[g]? = some .tok ∧ H.length ≤ g) H.length ⟨(pre_app hpre), get_new, (pre_len hpre)⟩ (Reb.trans (Reb.void (l := [(0, .sl 1 (l.map c_i64) .no), (3, .sl 1 (([] : (List Int)).map c_i64) (.tk H.length)), (4, kI 0)]) ⟨.of rf, .nil _ _, .of rf, trivial⟩) (flr rfl)) ?_
  intro s1 gout10 M12 vc hI h k16
  obtain ⟨out9, n11⟩ := s1
  obtain ⟨hp13, f14, lo15⟩ := hI
  unfold mementoref6_Of_L1 at h
  refine aw_seq <| sr (by decide) <| OR 2 rfl <| nt ?_
  refine aT h rfl (fun hb h => ?_) (fun hb h => ?_)
  ·refine aw_skip <| thenQ_n ?_
   obtain ⟨out17, h, k23⟩ := bs h
   refine aw_joinS (S := (List Int)) (G := Nat) out17 (fun s g => Frm.of [(0, .sl 1 (l.map c_i64) .no), (3, .sl 1 (s.map c_i64) (.tk g)), (4, kI n11)]) (fun s g M => H <+: M ∧ M[g]? = some .tok ∧ H.length ≤ g) ?_ ?_
   ·refine aw_block <| sr (by decide) <| OR 2 rfl ?_
    obtain ⟨y, q, h⟩ := bs h
    refine OD (kB y) M12 rfl (o_call (w_mementoref6_Has l n11 M12 q) ⟨rf, rf, trivial⟩ rf) <| nt ?_
    refine aT h rfl (fun hb24 h => ?_) (fun hb24 h => ?_)
    ·refine aw_region (by decide) <| OR 2 rfl <| OD (.sl 1 (([n11] : (List Int)).map c_i64) .ex) M12 rfl (o_buildSlice0 (cs := [kI n11]) (pcs := [.sc (.int .i64 n11)]) U22 ti3 rfl (by decide) rfl rfl rf) ?_
     obtain ⟨m, qm, h⟩ := bs h
     obtain ⟨M25, hM25⟩ := nM (M12.set gout10 .dead ++ [.tok])
     obtain ⟨e, he⟩ := nE (M12.length)
     refine OD (.sl 1 (m.map c_i64) (.tk e)) M25 rfl (by rw [he]; exact o_appT (c := c_i64) rfl f14 (src_sl rfl) U22 ti3 rfl (by simp [sliceStr, U22]) qm hM25) ?_
     have hp26 := eqP hM25 (pre_app (pre_hi hp13 lo15))
     have f27 : M25[e]? = some .tok := by rw [hM25, he]; exact get_new2
     have lo28 := loE he hp13
     refine OR 1 rfl <| OpsS_nil <| blockQ_n ?_
     obtain rfl := sI h
     exact thenQ_n ⟨e, M25, ⟨hp26, f27, lo28⟩, flr rfl⟩
    ·refine aw_skip <| blockQ_n ?_
     obtain rfl := sI h
     exact thenQ_n ⟨gout10, M12, ⟨hp13, f14, lo15⟩, flr rfl⟩
   ·rintro gout18 M19 ⟨hp20, f21, lo22⟩
    have h := k23
    refine aw_region (by decide) <| OR 3 rfl <| OpsS_nil ?_
    exact thenQ_n ⟨(out17, (w64 (n11 + 1))), gout18, M19, (Option.some.inj h).symm, ⟨hp20, f21, lo22⟩, flr rfl⟩
  ·refine aw_exit <| thenQ_exit <| thenQ_exit ?_
   have h := early_ret h k16
   refine blockQ_exit ?_
   obtain rfl := sI h
   exact thenQ_n ⟨gout10, M12, ⟨hp13, f14, lo15⟩, flr rfl⟩
 ·rintro gout M ⟨hp, f, lo⟩
  have h := k
  refine thenQ_n <| sr (by decide) <| OR 2 rfl <| nt <| aw_ret ?_
  obtain rfl := sI h
  exact done_tmp rfl (.no _ _ _) hp
set_option maxHeartbeats 4000000 in
theorem w_mementoref6_With (l : (List Int)) (n : Int) (H : Mem) {r : (List Int)} (h : mementoref6_With l n = some r) : ACalls Try.prog 11 [.sl 1 (l.map c_i64) .no, kI n] H (fun r' H' => r' = .sl 1 (r.map c_i64) .no ∧ H' = H) := by
 unfold mementoref6_With at h
 refine ACalls.done0 rfl ?_
 refine acalls_walk Try.func11 rfl cl11 (by simp [Try.ntmps11]) (fun hB => ?_)
 refine aw_reb (Reb.of (l := [(0, .sl 1 (l.map c_i64) .no), (1, kI n)]) (by simp [FrL, afr0])) ?_
 have hpre : H <+: H := List.prefix_refl _
 refine sr (by decide) <| OR 1 rfl <| nt <| sr (by decide) <| OR 1 rfl ?_
 obtain ⟨m, qm, h⟩ := bs h
 obtain ⟨M, hM⟩ := nM (H ++ [.tok])
 obtain ⟨e, he⟩ := nE (H.length)
 refine OD (.sl 1 (m.map c_i64) (.tk e)) M rfl (by rw [he]; exact o_app1 (c := c_i64) (.inr ⟨rfl, rfl⟩) (src_sl rfl) U22 ti3 rfl (by simp [sliceStr, U22]) qm hM) ?_
 have hp := eqP hM (pre_app hpre)
 have f := nwE hM he
 have lo := loE he hpre
 refine OR 1 rfl <| OD (.sl 1 (([n] : (List Int)).map c_i64) .ex) M rfl (o_buildSlice0 (cs := [kI n]) (pcs := [.sc (.int .i64 n)]) U22 ti3 rfl (by decide) rfl rfl rf) ?_
 obtain ⟨m1, qm1, h⟩ := bs h
 obtain ⟨M2, hM2⟩ := nM (M.set e .dead ++ [.tok])
 obtain ⟨e3, he3⟩ := nE (M.length)
 refine OD (.sl 1 (m1.map c_i64) (.tk e3)) M2 rfl (by rw [he3]; exact o_appT (c := c_i64) rfl f (src_sl rfl) U22 ti3 rfl (by simp [sliceStr, U22]) qm1 hM2) ?_
 have hp4 := eqP hM2 (pre_app (pre_hi hp lo))
 have f5 : M2[e3]? = some .tok := by rw [hM2, he3]; exact get_new2
 have lo6 := loE he3 hp
 obtain ⟨y, q, h⟩ := bs h
 refine OD (.sl 1 (y.map c_i64) .no) M2 rfl (o_call (w_mementoref6_Of m1 M2 q) ⟨(.no _ _ _), trivial⟩ rf) <| OR 1 rfl <| nt <| aw_ret ?_
 obtain rfl := sI h
 exact done_tmp rfl rf hp4
set_option maxHeartbeats 4000000 in
theorem w_mementoref6_SameInts (a : (List Int)) (b : (List Int)) (H : Mem) {r : Bool} (h : mementoref6_SameInts a b = some r) : ACalls Try.prog 20 [.sl 1 (a.map c_i64) .no, .sl 1 (b.map c_i64) .no] H (fun r' H' => r' = kB r ∧ H' = H) := by
 unfold mementoref6_SameInts at h
 refine ACalls.done0 rfl ?_
 refine acalls_walk Try.func20 rfl cl20 (by simp [Try.ntmps20]) (fun hB => ?_)
 refine aw_reb (Reb.of (l := [(0, .sl 1 (a.map c_i64) .no), (1, .sl 1 (b.map c_i64) .no)]) (by simp [FrL, afr0])) ?_
 have hpre : H <+: H := List.prefix_refl _
 refine sr (by decide) <| OR 1 rfl <| nt <| aw_seq <| sr (by decide) ?_
 refine OR 1 rfl <| OD (kI (a.length : Int)) H rfl (o_lenL U22 rfl) <| OR 1 rfl <| OD (kI (b.length : Int)) H rfl (o_lenL U22 rfl) <| OR 1 rfl <| nt ?_
 refine aT h rfl (fun hb h => ?_) (fun hb h => ?_)
 ·refine sr (by decide) <| OR 1 rfl <| nt <| aw_ret <| thenQ_ret ?_
  obtain rfl := sI h
  exact done_tmp rfl rf hpre
 ·refine aw_skip <| thenQ_n <| aw_seq <| sr (by decide) <| OR 1 rfl <| nt ?_
  obtain ⟨vc, h, k⟩ := kont_some h
  refine aw_tailD (S := Unit) (G := Unit) vc (fun s g => Frm.of []) (fun s g M => H <+: M) ?_ ?_
  ·refine aw_block ?_
   refine aw_loopD (S := Int) (G := Unit) (H1 := H) h (fun s g => Frm.of [(0, .sl 1 (a.map c_i64) .no), (1, .sl 1 (b.map c_i64) .no), (5, kI s)]) (fun s g M => H <+: M) () hpre (flr rfl) ?_
   intro i5 g1 M6 vc9 hI h k8
   obtain ⟨⟩ := g1
   have hp7 := hI
   unfold mementoref6_SameInts_L1 at h
   refine aw_seq <| sr (by decide) <| OR 2 rfl <| OD (kI (a.length : Int)) M6 rfl (o_lenL U22 rfl) <| OR 1 rfl <| nt ?_
   refine aT h rfl (fun hb10 h => ?_) (fun hb10 h => ?_)
   ·refine aw_skip <| thenQ_n <| aw_seq <| aw_block <| aw_seq <| aw_draw mixed [0, 0, 0, 0, 0, 0, 0, 0, 0] (by decide) (by kernel_rfl) <| DR 2 rfl ?_
    obtain ⟨x, qx, h⟩ := bs h
    refine DD0 _ rfl (fun H0 => o_indexAddr (c := c_i64) U22 ti3 rfl rfl qx) <| DD0 (kI x) rfl (fun H0 => o_loadE ag3 ti3 rfl rf) <| DR 2 rfl ?_
    obtain ⟨x11, qx11, h⟩ := bs h
    refine DD0 _ rfl (fun H0 => o_indexAddr (c := c_i64) U22 ti3 rfl rfl qx11) <| DD0 (kI x11) rfl (fun H0 => o_loadE ag3 ti3 rfl rf) <| DR 1 rfl <| DRun_nil <| thenQ_n ?_
    refine aT h rfl (fun hb12 h => ?_) (fun hb12 h => ?_)
    ·refine sr (by decide) <| OR 1 rfl <| nt <| aw_ret <| blockQ_ret <| thenQ_ret ?_
     refine thenQ_ret ?_
     have h := early_ret h k8
     refine blockQ_ret <| thenQ_ret ?_
     have h := early_some h k
     refine thenQ_ret ?_
     obtain rfl := sI h
     exact done_tmp rfl rf hp7
    ·refine aw_skip <| blockQ_n <| thenQ_n <| aw_region (by decide) <| OR 3 rfl <| OpsS_nil ?_
     exact thenQ_n ⟨(w64 (i5 + 1)), (), M6, (Option.some.inj h).symm, hp7, flr rfl⟩
   ·refine aw_exit <| thenQ_exit <| thenQ_exit ?_
    have h := early_ret h k8
    refine blockQ_exit ?_
    exact thenQ_n ⟨(), (), M6, (Option.some.inj h).symm, hp7, Reb.fl trivial⟩
  ·rintro ⟨⟩ ⟨⟩ M rfl hp
   have h := kont_go k
   refine thenQ_n <| sr (by decide) <| OR 1 rfl <| nt <| aw_ret ?_
   obtain rfl := sI h
   exact done_tmp rfl rf hp
set_option maxHeartbeats 4000000 in
theorem w_mementohelp_Ints (a : (List Int)) (b : (List Int)) (H : Mem) {r : Bool} (h : mementohelp_Ints a b = some r) : ACalls Try.prog 9 [.sl 1 (a.map c_i64) .no, .sl 1 (b.map c_i64) .no] H (fun r' H' => r' = kB r ∧ H' = H) := by
 unfold mementohelp_Ints at h
 refine ACalls.done0 rfl ?_
 refine acalls_walk Try.func9 rfl cl9 (by simp [Try.ntmps9]) (fun hB => ?_)
 refine aw_reb (Reb.of (l := [(0, .sl 1 (a.map c_i64) .no), (1, .sl 1 (b.map c_i64) .no)]) (by simp [FrL, afr0])) ?_
 have hpre : H <+: H := List.prefix_refl _
 refine sr (by decide) <| OR 1 rfl <| nt <| sr (by decide) <| OR 2 rfl ?_
 obtain ⟨y, q, h⟩ := bs h
 refine OD (kB y) H rfl (o_call (w_mementoref6_SameInts a b H q) ⟨rf, rf, trivial⟩ rf) <| OR 1 rfl <| nt <| aw_ret ?_
 obtain rfl := sI h
 exact done_tmp rfl rf hpre
set_option maxHeartbeats 4000000 in
theorem w_mementoref6_Without (l : (List Int)) (n : Int) (H : Mem) {r : (List Int)} (h : mementoref6_Without l n = some r) : ACalls Try.prog 13 [.sl 1 (l.map c_i64) .no, kI n] H (fun r' H' => r' = .sl 1 (r.map c_i64) .no ∧ H' = H) := by
 unfold mementoref6_Without at h
 refine ACalls.done0 rfl ?_
 refine acalls_walk Try.func13 rfl cl13 (by simp [Try.ntmps13]) (fun hB => ?_)
 refine aw_reb (Reb.of (l := [(0, .sl 1 (l.map c_i64) .no), (1, kI n)]) (by simp [FrL, afr0])) ?_
 have hpre : H <+: H := List.prefix_refl _
 refine sr (by decide) <| OR 1 rfl <| nt <| sr (by decide) <| OR 1 rfl ?_
 refine nt <| aw_seq <| sr (by decide) <| OR 1 rfl <| nt ?_
 obtain ⟨out, h, k⟩ := bs h
 refine aw_tailS (S := (List Int)) (G := Nat) out (fun s g => Frm.of [(5, .sl 1 (s.map c_i64) (.tk g))]) (fun s g M => H <+: M ∧ M[g]? = some .tok ∧ H.length ≤ g) ?_ ?_
 ·refine aw_block ?_
  refine aw_loopD (S := ((List Int) × Int)) (G := Nat) (H1 := (H ++ [Ent.tok])) h (fun s g => Frm.of [(0, .sl 1 (l.map c_i64) .no), (1, kI n), (5, .sl 1 (s.1.map c_i64) (.tk g)), (6, kI s.2)]) (fun s g M => H <+: M ∧ M[g]? = some .tok ∧ H.length ≤ g) H.length ⟨(pre_app hpre), get_new, (pre_len hpre)⟩ (Reb.trans (Reb.void (l := [(0, .sl 1 (l.map c_i64) .no), (1, kI n), (5, .sl 1 (([] : (List Int)).map c_i64) (.tk H.length)), (6, kI 0)]) ⟨.of rf, .of rf, .nil _ _, .of rf, trivial⟩) (flr rfl)) ?_
  intro s1 gout10 M12 vc hI h k16
  obtain ⟨out9, i11⟩ := s1
  obtain ⟨hp13, f14, lo15⟩ := hI
  unfold mementoref6_Without_L1 at h
  refine aw_seq <| sr (by decide) <| OR 2 rfl <| OD (kI (l.length : Int)) M12 rfl (o_lenL U22 rfl) <| OR 1 rfl <| nt ?_
  refine aT h rfl (fun hb h => ?_) (fun hb h => ?_)
  ·refine aw_skip <| thenQ_n ?_
   obtain ⟨out17, h, k23⟩ := bs h
   refine aw_joinS (S := (List Int)) (G := Nat) out17 (fun s g => Frm.of [(0, .sl 1 (l.map c_i64) .no), (1, kI n), (5, .sl 1 (s.map c_i64) (.tk g)), (6, kI i11)]) (fun s g M => H <+: M ∧ M[g]? = some .tok ∧ H.length ≤ g) ?_ ?_
   ·refine aw_block <| sr (by decide) <| OR 2 rfl ?_
    obtain ⟨x, qx, h⟩ := bs h
    refine OD _ M12 rfl (o_indexAddr (c := c_i64) U22 ti3 rfl rfl qx) <| OD (kI x) M12 rfl (o_loadE ag3 ti3 rfl rf) <| OR 2 rfl <| nt ?_
    refine aT h rfl (fun hb24 h => ?_) (fun hb24 h => ?_)
    ·refine aw_region (by decide) <| OR 3 rfl <| OD _ M12 rfl (o_indexAddr (c := c_i64) U22 ti3 rfl rfl qx) <| OD (kI x) M12 rfl (o_loadE ag3 ti3 rfl rf) <| OD (.sl 1 (([x] : (List Int)).map c_i64) .ex) M12 rfl (o_buildSlice0 (cs := [kI x]) (pcs := [.sc (.int .i64 x)]) U22 ti3 rfl (by decide) rfl rfl rf) ?_
     obtain ⟨m, qm, h⟩ := bs h
     obtain ⟨M25, hM25⟩ := nM (M12.set gout10 .dead ++ [.tok])
     obtain ⟨e, he⟩ := nE (M12.length)
     refine OD (.sl 1 (m.map c_i64) (.tk e)) M25 rfl (by rw [he]; exact o_appT (c := c_i64) rfl f14 (src_sl rfl) U22 ti3 rfl (by simp [sliceStr, U22]) qm hM25) ?_
     have hp26 := eqP hM25 (pre_app (pre_hi hp13 lo15))
     have f27 : M25[e]? = some .tok := by rw [hM25, he]; exact get_new2
     have lo28 := loE he hp13
     refine OR 1 rfl <| OpsS_nil <| blockQ_n ?_
     obtain rfl := sI h
     exact thenQ_n ⟨e, M25, ⟨hp26, f27, lo28⟩, flr rfl⟩
    ·refine aw_skip <| blockQ_n ?_
     obtain rfl := sI h
     exact thenQ_n ⟨gout10, M12, ⟨hp13, f14, lo15⟩, flr rfl⟩
   ·rintro gout18 M19 ⟨hp20, f21, lo22⟩
    have h := k23
    refine aw_region (by decide) <| OR 3 rfl <| OpsS_nil ?_
    exact thenQ_n ⟨(out17, (w64 (i11 + 1))), gout18, M19, (Option.some.inj h).symm, ⟨hp20, f21, lo22⟩, flr rfl⟩
  ·refine aw_exit <| thenQ_exit <| thenQ_exit ?_
   have h := early_ret h k16
   refine blockQ_exit ?_
   obtain rfl := sI h
   exact thenQ_n ⟨gout10, M12, ⟨hp13, f14, lo15⟩, flr rfl⟩
 ·rintro gout M ⟨hp, f, lo⟩
  have h := k
  refine thenQ_n <| sr (by decide) <| OR 1 rfl ?_
  obtain ⟨y, q, h⟩ := bs h
  refine OD (.sl 1 (y.map c_i64) .no) M rfl (o_call (w_mementoref6_Of out M q) ⟨(.no _ _ _), trivial⟩ rf) <| OR 1 rfl <| nt <| aw_ret ?_
  obtain rfl := sI h
  exact done_tmp rfl rf hp
set_option maxHeartbeats 4000000 in
theorem w_mementoref6_Right (l : (List Int)) (H : Mem) {r : Bool} (h : mementoref6_Right l = some r) : ACalls Try.prog 16 [.sl 1 (l.map c_i64) .no] H (fun r' H' => r' = kB r ∧ H' = H) := by
 unfold mementoref6_Right at h
 refine ACalls.done0 rfl ?_
 refine acalls_walk Try.func16 rfl cl16 (by simp [Try.ntmps16]) (fun hB => ?_)
 refine aw_reb (Reb.of (l := [(0, .sl 1 (l.map c_i64) .no)]) (by simp [FrL, afr0])) ?_
 have hpre : H <+: H := List.prefix_refl _
 refine sr (by decide) <| OR 1 rfl <| nt <| sr (by decide) <| OR 1 rfl ?_
 obtain ⟨y, q, h⟩ := bs h
 refine OD (.sl 1 (y.map c_i64) .no) H rfl (o_call (w_mementoref6_Of l H q) ⟨rf, trivial⟩ rf) <| OR 1 rfl <| nt <| aw_seq ?_
 obtain ⟨t16, h, k⟩ := bs h
 refine aw_joinS (S := Bool) (G := Unit) t16 (fun s g => Frm.of [(0, .sl 1 (l.map c_i64) .no), (3, .sl 1 (y.map c_i64) .no), (16, kB s)]) (fun s g M => H <+: M) ?_ ?_
 ·refine aw_region (by decide) <| OR 1 rfl <| OD (kI (l.length : Int)) H rfl (o_lenL U22 rfl) <| OR 1 rfl ?_
  refine oT h rfl (o_move rf) (fun hg h => ?_) (fun hg h => ?_)
  ·refine OR 6 rfl <| OpsS_nil ?_
   obtain rfl := sI h
   exact thenQ_n ⟨(), H, hpre, flr rfl⟩
  ·refine OR 1 rfl <| OD (kI (y.length : Int)) H rfl (o_lenL U22 rfl) <| OR 1 rfl <| OD (kI (l.length : Int)) H rfl (o_lenL U22 rfl) <| OR 2 rfl <| OpsS_nil ?_
   obtain rfl := sI h
   exact thenQ_n ⟨(), H, hpre, flr rfl⟩
 ·rintro ⟨⟩ M hp
  have h := k
  refine aT h rfl (fun hb h => ?_) (fun hb h => ?_)
  ·refine sr (by decide) <| OR 1 rfl <| nt <| aw_ret <| thenQ_ret ?_
   obtain rfl := sI h
   exact done_tmp rfl rf hp
  ·refine aw_skip <| thenQ_n <| aw_seq <| sr (by decide) <| OR 1 rfl <| nt ?_
   obtain ⟨vc, h, k3⟩ := kont_some h
   refine aw_tailD (S := Unit) (G := Unit) vc (fun s g => Frm.of []) (fun s g M => H <+: M) ?_ ?_
   ·refine aw_block ?_
    refine aw_loopD (S := Int) (G := Unit) (H1 := M) h (fun s g => Frm.of [(0, .sl 1 (l.map c_i64) .no), (3, .sl 1 (y.map c_i64) .no), (4, kI s)]) (fun s g M => H <+: M) () hp (flr rfl) ?_
    intro i8 g1 M9 vc12 hI h k11
    obtain ⟨⟩ := g1
    have hp10 := hI
    unfold mementoref6_Right_L1 at h
    refine aw_seq <| sr (by decide) <| OR 2 rfl <| OD (kI (l.length : Int)) M9 rfl (o_lenL U22 rfl) <| OR 1 rfl <| nt ?_
    refine aT h rfl (fun hb13 h => ?_) (fun hb13 h => ?_)
    ·refine aw_skip <| thenQ_n <| aw_seq <| aw_block <| aw_seq <| aw_draw mixed [0, 0, 0, 0, 0, 0, 0, 0, 0] (by decide) (by kernel_rfl) <| DR 2 rfl ?_
     obtain ⟨x, qx, h⟩ := bs h
     refine DD0 _ rfl (fun H0 => o_indexAddr (c := c_i64) U22 ti3 rfl rfl qx) <| DD0 (kI x) rfl (fun H0 => o_loadE ag3 ti3 rfl rf) <| DR 2 rfl ?_
     obtain ⟨x14, qx14, h⟩ := bs h
     refine DD0 _ rfl (fun H0 => o_indexAddr (c := c_i64) U22 ti3 rfl rfl qx14) <| DD0 (kI x14) rfl (fun H0 => o_loadE ag3 ti3 rfl rf) <| DR 1 rfl <| DRun_nil <| thenQ_n ?_
     refine aT h rfl (fun hb15 h => ?_) (fun hb15 h => ?_)
     ·refine sr (by decide) <| OR 1 rfl <| nt <| aw_ret <| blockQ_ret <| thenQ_ret ?_
      refine thenQ_ret ?_
      have h := early_ret h k11
      refine blockQ_ret <| thenQ_ret ?_
      have h := early_some h k3
      refine thenQ_ret ?_
      obtain rfl := sI h
      exact done_tmp rfl rf hp10
     ·refine aw_skip <| blockQ_n <| thenQ_n <| aw_region (by decide) <| OR 3 rfl <| OpsS_nil ?_
      exact thenQ_n ⟨(w64 (i8 + 1)), (), M9, (Option.some.inj h).symm, hp10, flr rfl⟩
    ·refine aw_exit <| thenQ_exit <| thenQ_exit ?_
     have h := early_ret h k11
     refine blockQ_exit ?_
     exact thenQ_n ⟨(), (), M9, (Option.some.inj h).symm, hp10, Reb.fl trivial⟩
   ·rintro ⟨⟩ ⟨⟩ M1 rfl hp2
    have h := kont_go k3
    refine thenQ_n <| sr (by decide) <| OR 1 rfl <| nt <| aw_ret ?_
    obtain rfl := sI h
    exact done_tmp rfl rf hp2
set_option maxHeartbeats 4000000 in
theorem w_mementoref6_Most (l : (List Int)) (yes : (List Int)) (H : Mem) {r : Bool} (h : mementoref6_Most l yes = some r) : ACalls Try.prog 18 [.sl 1 (l.map c_i64) .no, .sl 1 (yes.map c_i64) .no] H (fun r' H' => r' = kB r ∧ H' = H) := by
 unfold mementoref6_Most at h
 refine ACalls.done0 rfl ?_
 refine acalls_walk Try.func18 rfl cl18 (by simp [Try.ntmps18]) (fun hB => ?_)
 refine aw_reb (Reb.of (l := [(0, .sl 1 (l.map c_i64) .no), (1, .sl 1 (yes.map c_i64) .no)]) (by simp [FrL, afr0])) ?_
 have hpre : H <+: H := List.prefix_refl _
 refine sr (by decide) <| OR 1 rfl <| nt <| sr (by decide) <| OR 1 rfl ?_
 obtain ⟨y, q, h⟩ := bs h
 refine OD (.sl 1 (y.map c_i64) .no) H rfl (o_call (w_mementoref6_Of l H q) ⟨rf, trivial⟩ rf) <| OR 1 rfl <| nt <| sr (by decide) <| OR 1 rfl <| OpsS_nil ?_
 refine thenQ_n <| aw_seq <| sr (by decide) <| OR 1 rfl <| nt ?_
 obtain ⟨n, h, k⟩ := bs h
 refine aw_tailS (S := Int) (G := Unit) n (fun s g => Frm.of [(5, .sl 1 (y.map c_i64) .no), (6, kI s)]) (fun s g M => H <+: M) ?_ ?_
 ·refine aw_block ?_
  refine aw_loopD (S := (Int × Int)) (G := Unit) (H1 := H) h (fun s g => Frm.of [(1, .sl 1 (yes.map c_i64) .no), (5, .sl 1 (y.map c_i64) .no), (6, kI s.1), (7, kI s.2)]) (fun s g M => H <+: M) () hpre (flr rfl) ?_
  intro s1 g1 M8 vc hI h k10
  obtain ⟨n6, i7⟩ := s1
  obtain ⟨⟩ := g1
  have hp9 := hI
  unfold mementoref6_Most_L1 at h
  refine aw_seq <| sr (by decide) <| OR 2 rfl <| OD (kI (y.length : Int)) M8 rfl (o_lenL U22 rfl) <| OR 1 rfl <| nt ?_
  refine aT h rfl (fun hb h => ?_) (fun hb h => ?_)
  ·refine aw_skip <| thenQ_n ?_
   obtain ⟨n11, h, k14⟩ := bs h
   refine aw_joinS (S := Int) (G := Unit) n11 (fun s g => Frm.of [(1, .sl 1 (yes.map c_i64) .no), (5, .sl 1 (y.map c_i64) .no), (6, kI s), (7, kI i7)]) (fun s g M => H <+: M) ?_ ?_
   ·refine aw_block <| sr (by decide) <| OR 3 rfl ?_
    obtain ⟨x, qx, h⟩ := bs h
    refine OD _ M8 rfl (o_indexAddr (c := c_i64) U22 ti3 rfl rfl qx) <| OD (kI x) M8 rfl (o_loadE ag3 ti3 rfl rf) ?_
    obtain ⟨y15, q16, h⟩ := bs h
    refine OD (kB y15) M8 rfl (o_call (w_mementoref6_Has yes x M8 q16) ⟨rf, rf, trivial⟩ rf) <| nt ?_
    refine aT h rfl (fun hb17 h => ?_) (fun hb17 h => ?_)
    ·refine aw_region (by decide) <| OR 3 rfl <| OpsS_nil <| blockQ_n ?_
     obtain rfl := sI h
     exact thenQ_n ⟨(), M8, hp9, flr rfl⟩
    ·refine aw_skip <| blockQ_n ?_
     obtain rfl := sI h
     exact thenQ_n ⟨(), M8, hp9, flr rfl⟩
   ·rintro ⟨⟩ M12 hp13
    have h := k14
    refine aw_region (by decide) <| OR 3 rfl <| OpsS_nil ?_
    exact thenQ_n ⟨(n11, (w64 (i7 + 1))), (), M12, (Option.some.inj h).symm, hp13, flr rfl⟩
  ·refine aw_exit <| thenQ_exit <| thenQ_exit ?_
   have h := early_ret h k10
   refine blockQ_exit ?_
   obtain rfl := sI h
   exact thenQ_n ⟨(), M8, hp9, flr rfl⟩
 ·rintro ⟨⟩ M hp
  have h := k
  refine thenQ_n <| sr (by decide) <| OR 3 rfl <| OD (kI (y.length : Int)) M rfl (o_lenL U22 rfl) <| OR 2 rfl <| nt ?_
  refine aw_ret ?_
  obtain rfl := sI h
  exact done_tmp rfl rf hp
set_option maxHeartbeats 4000000 in
theorem w_mementolaw6_ConfTells (a0 : (List Int)) (a1 : (List Int)) (a2 : Int) (a3 : Int) (H : Mem) {r : Bool} (h : mementolaw6_ConfTells a0 a1 a2 a3 = some r) : ACalls Try.prog 3 [.sl 1 (a0.map c_i64) .no, .sl 1 (a1.map c_i64) .no, kI a2, kY a3] H (fun r' H' => r' = kB r ∧ H' = H) := by
 unfold mementolaw6_ConfTells at h
 refine ACalls.done0 rfl ?_
 refine acalls_walk Try.func3 rfl cl3 (by simp [Try.ntmps3]) (fun hB => ?_)
 refine aw_reb (Reb.of (l := [(0, .sl 1 (a0.map c_i64) .no), (1, .sl 1 (a1.map c_i64) .no), (2, kI a2), (3, kY a3)]) (by simp [FrL, afr0])) ?_
 have hpre : H <+: H := List.prefix_refl _
 refine sr (by decide) <| OR 1 rfl <| nt <| aw_seq <| sr (by decide) ?_
 obtain ⟨y, q, h⟩ := bs h
 refine OD (kB y) H rfl (o_call (w_mementolaw6_known  H q) trivial rf) <| OR 1 rfl <| nt ?_
 refine aT h rfl (fun hb h => ?_) (fun hb h => ?_)
 ·refine sr (by decide) <| OR 1 rfl <| nt <| aw_ret <| thenQ_ret ?_
  obtain rfl := sI h
  exact done_tmp rfl rf hpre
 ·refine aw_skip <| thenQ_n <| aw_seq ?_
  obtain ⟨t26, h, k⟩ := bs h
  refine aw_joinS (S := Bool) (G := Unit) t26 (fun s g => Frm.of [(0, .sl 1 (a0.map c_i64) .no), (1, .sl 1 (a1.map c_i64) .no), (2, kI a2), (3, kY a3), (26, kB s)]) (fun s g M => H <+: M) ?_ ?_
  ·refine aw_region (by decide) <| OR 1 rfl <| OD (kI (a0.length : Int)) H rfl (o_lenL U22 rfl) <| OR 1 rfl ?_
   refine oT h rfl (o_move rf) (fun hg h => ?_) (fun hg h => ?_)
   ·refine OR 4 rfl <| OpsS_nil ?_
    obtain rfl := sI h
    exact thenQ_n ⟨(), H, hpre, flr rfl⟩
   ·refine OR 1 rfl <| OD (kI (a1.length : Int)) H rfl (o_lenL U22 rfl) <| OR 2 rfl <| OpsS_nil ?_
    obtain rfl := sI h
    exact thenQ_n ⟨(), H, hpre, flr rfl⟩
  ·rintro ⟨⟩ M hp
   have h := k
   refine aT h rfl (fun hb1 h => ?_) (fun hb1 h => ?_)
   ·refine sr (by decide) <| OR 1 rfl <| nt <| aw_ret <| thenQ_ret ?_
    obtain rfl := sI h
    exact done_tmp rfl rf hp
   ·refine aw_skip <| thenQ_n <| sr (by decide) <| OR 2 rfl <| nt <| aw_seq ?_
    refine sr (by decide) <| OR 1 rfl <| nt ?_
    obtain ⟨t9, h, k4⟩ := bs h
    refine aw_tailS (S := (List Int)) (G := Nat) t9 (fun s g => Frm.of [(0, .sl 1 (a0.map c_i64) .no), (1, .sl 1 (a1.map c_i64) .no), (2, kI a2), (3, kY a3), (9, .sl 1 (s.map c_i64) (.tk g)), (10, .sc (.slice none 0 0))]) (fun s g M => H <+: M ∧ M[g]? = some .tok ∧ H.length ≤ g) ?_ ?_
    ·refine aw_block ?_
     refine aw_loopD (S := ((List Int) × Int)) (G := Nat) (H1 := (M ++ [Ent.tok])) h (fun s g => Frm.of [(0, .sl 1 (a0.map c_i64) .no), (1, .sl 1 (a1.map c_i64) .no), (2, kI a2), (3, kY a3), (9, .sl 1 (s.1.map c_i64) (.tk g)), (10, .sc (.slice none 0 0)), (11, kI s.2)]) (fun s g M => H <+: M ∧ M[g]? = some .tok ∧ H.length ≤ g) M.length ⟨(pre_app hp), get_new, (pre_len hp)⟩ (Reb.trans (Reb.void (l := [(0, .sl 1 (a0.map c_i64) .no), (1, .sl 1 (a1.map c_i64) .no), (2, kI a2), (3, kY a3), (9, .sl 1 (([] : (List Int)).map c_i64) (.tk M.length)), (10, .sc (.slice none 0 0)), (11, kI 0)]) ⟨.of rf, .of rf, .of rf, .of rf, .nil _ _, .of rf, .of rf, trivial⟩) (flr rfl)) ?_
     intro s1 gt914 M16 vc hI h k20
     obtain ⟨t913, t1115⟩ := s1
     obtain ⟨hp17, f18, lo19⟩ := hI
     unfold mementolaw6_ConfTells_L1 at h
     refine aw_seq <| sr (by decide) <| OR 2 rfl <| OD (kI (a0.length : Int)) M16 rfl (o_lenL U22 rfl) <| OR 1 rfl <| nt ?_
     refine aT h rfl (fun hb21 h => ?_) (fun hb21 h => ?_)
     ·refine aw_skip <| thenQ_n <| aw_seq <| aw_block <| aw_region (by decide) <| OR 3 rfl ?_
      obtain ⟨x, qx, h⟩ := bs h
      refine OD _ M16 rfl (o_indexAddr (c := c_i64) U22 ti3 rfl rfl qx) <| OD (kI x) M16 rfl (o_loadE ag3 ti3 rfl rf) ?_
      obtain ⟨y22, q23, h⟩ := bs h
      refine OD (kI y22) M16 rfl (o_call (w_mementohelp_Place x 8 M16 q23) ⟨rf, rf, trivial⟩ rf) <| OD (.sl 1 (([y22] : (List Int)).map c_i64) .ex) M16 rfl (o_buildSlice0 (cs := [kI y22]) (pcs := [.sc (.int .i64 y22)]) U22 ti3 rfl (by decide) rfl rfl rf) ?_
      obtain ⟨m, qm, h⟩ := bs h
      obtain ⟨M24, hM24⟩ := nM (M16.set gt914 .dead ++ [.tok])
      obtain ⟨e, he⟩ := nE (M16.length)
      refine OD (.sl 1 (m.map c_i64) (.tk e)) M24 rfl (by rw [he]; exact o_appT (c := c_i64) rfl f18 (src_sl rfl) U22 ti3 rfl (by simp [sliceStr, U22]) qm hM24) ?_
      have hp25 := eqP hM24 (pre_app (pre_hi hp17 lo19))
      have f26 : M24[e]? = some .tok := by rw [hM24, he]; exact get_new2
      have lo27 := loE he hp17
      refine OR 1 rfl <| OpsS_nil <| blockQ_n <| thenQ_n <| aw_region (by decide) <| OR 3 rfl <| OpsS_nil ?_
      exact thenQ_n ⟨(m, (w64 (t1115 + 1))), e, M24, (Option.some.inj h).symm, ⟨hp25, f26, lo27⟩, flr rfl⟩
     ·refine aw_exit <| thenQ_exit <| thenQ_exit ?_
      have h := early_ret h k20
      refine blockQ_exit ?_
      obtain rfl := sI h
      exact thenQ_n ⟨gt914, M16, ⟨hp17, f18, lo19⟩, flr rfl⟩
    ·rintro gt9 M2 ⟨hp3, f, lo⟩
     have h := k4
     refine thenQ_n <| aw_seq <| sr (by decide) <| OR 1 rfl <| nt ?_
     obtain ⟨t10, h, k34⟩ := bs h
     refine aw_tailS (S := (List Int)) (G := Nat) t10 (fun s g => Frm.of [(0, .sl 1 (a0.map c_i64) .no), (1, .sl 1 (a1.map c_i64) .no), (2, kI a2), (3, kY a3), (9, .sl 1 (t9.map c_i64) (.tk gt9)), (10, .sl 1 (s.map c_i64) (.tk g))]) (fun s g M => H <+: M ∧ M[gt9]? = some .tok ∧ H.length ≤ gt9 ∧ M[g]? = some .tok ∧ H.length ≤ g ∧ gt9 ≠ g) ?_ ?_
     ·refine aw_block ?_
      refine aw_loopD (S := ((List Int) × Int)) (G := Nat) (H1 := (M2 ++ [Ent.tok])) h (fun s g => Frm.of [(0, .sl 1 (a0.map c_i64) .no), (1, .sl 1 (a1.map c_i64) .no), (2, kI a2), (3, kY a3), (9, .sl 1 (t9.map c_i64) (.tk gt9)), (10, .sl 1 (s.1.map c_i64) (.tk g)), (12, kI s.2)]) (fun s g M => H <+: M ∧ M[gt9]? = some .tok ∧ H.length ≤ gt9 ∧ M[g]? = some .tok ∧ H.length ≤ g ∧ gt9 ≠ g) M2.length ⟨(pre_app hp3), (get_app f), lo, get_new, (pre_len hp3), (Nat.ne_of_lt (lt_of_get f))⟩ (Reb.trans (Reb.void (l := [(0, .sl 1 (a0.map c_i64) .no), (1, .sl 1 (a1.map c_i64) .no), (2, kI a2), (3, kY a3), (9, .sl 1 (t9.map c_i64) (.tk gt9)), (10, .sl 1 (([] : (List Int)).map c_i64) (.tk M2.length)), (12, kI 0)]) ⟨.of rf, .of rf, .of rf, .of rf, .of rf, .nil _ _, .of rf, trivial⟩) (flr rfl)) ?_
      intro s1 gt1049 M51 vc59 hI h k58
      obtain ⟨t1048, t1250⟩ := s1
      obtain ⟨hp52, f53, lo54, f55, lo56, ne57⟩ := hI
      unfold mementolaw6_ConfTells_L2 at h
      refine aw_seq <| sr (by decide) <| OR 2 rfl <| OD (kI (a1.length : Int)) M51 rfl (o_lenL U22 rfl) <| OR 1 rfl <| nt ?_
      refine aT h rfl (fun hb60 h => ?_) (fun hb60 h => ?_)
      ·refine aw_skip <| thenQ_n <| aw_seq <| aw_block <| aw_region (by decide) <| OR 3 rfl ?_
       obtain ⟨x61, qx61, h⟩ := bs h
       refine OD _ M51 rfl (o_indexAddr (c := c_i64) U22 ti3 rfl rfl qx61) <| OD (kI x61) M51 rfl (o_loadE ag3 ti3 rfl rf) ?_
       obtain ⟨y62, q63, h⟩ := bs h
       refine OD (kI y62) M51 rfl (o_call (w_mementohelp_Place x61 8 M51 q63) ⟨rf, rf, trivial⟩ rf) <| OD (.sl 1 (([y62] : (List Int)).map c_i64) .ex) M51 rfl (o_buildSlice0 (cs := [kI y62]) (pcs := [.sc (.int .i64 y62)]) U22 ti3 rfl (by decide) rfl rfl rf) ?_
       obtain ⟨m64, qm64, h⟩ := bs h
       obtain ⟨M65, hM65⟩ := nM (M51.set gt1049 .dead ++ [.tok])
       obtain ⟨e66, he66⟩ := nE (M51.length)
       refine OD (.sl 1 (m64.map c_i64) (.tk e66)) M65 rfl (by rw [he66]; exact o_appT (c := c_i64) rfl f55 (src_sl rfl) U22 ti3 rfl (by simp [sliceStr, U22]) qm64 hM65) ?_
       have ne67 := neE he66 f53
       have f68 := eqM hM65 (get_app (get_ne ne57 f53))
       have hp69 := eqP hM65 (pre_app (pre_hi hp52 lo56))
       have f70 : M65[e66]? = some .tok := by rw [hM65, he66]; exact get_new2
       have lo71 := loE he66 hp52
       refine OR 1 rfl <| OpsS_nil <| blockQ_n <| thenQ_n <| aw_region (by decide) <| OR 3 rfl <| OpsS_nil ?_
       exact thenQ_n ⟨(m64, (w64 (t1250 + 1))), e66, M65, (Option.some.inj h).symm, ⟨hp69, f68, lo54, f70, lo71, ne67⟩, flr rfl⟩
      ·refine aw_exit <| thenQ_exit <| thenQ_exit ?_
       have h := early_ret h k58
       refine blockQ_exit ?_
       obtain rfl := sI h
       exact thenQ_n ⟨gt1049, M51, ⟨hp52, f53, lo54, f55, lo56, ne57⟩, flr rfl⟩
     ·rintro gt10 M28 ⟨hp29, f30, lo31, f32, lo33, ne⟩
      have h := k34
      refine thenQ_n <| aw_seq <| sr (by decide) <| OR 2 rfl <| OD (.ag [.sl 1 (a0.map c_i64) .no, .sl 1 (a1.map c_i64) .no]) M28 rfl (o_buildA (cs := [.sl 1 (a0.map c_i64) .no, .sl 1 (a1.map c_i64) .no]) ti25 U25 ti22 rfl rf) <| OR 2 rfl <| OD (.ag [.sl 1 (t9.map c_i64) .no, .sl 1 (t10.map c_i64) .no]) M28 rfl (o_buildA (cs := [.sl 1 (t9.map c_i64) (.tk gt9), .sl 1 (t10.map c_i64) (.tk gt10)]) ti25 U25 ti22 rfl (.agg ⟨(.no _ _ _), (.no _ _ _), trivial⟩)) ?_
      refine OR 1 rfl ?_
      obtain ⟨y72, q73, h⟩ := bs h
      refine OD (.sl 1 (y72.map c_i64) .no) M28 rfl (o_call (w_mementoref6_Of t9 M28 q73) ⟨(.no _ _ _), trivial⟩ rf) <| OR 1 rfl <| OD (.ag [.sl 1 (y72.map c_i64) .no, .sl 1 (t10.map c_i64) .no]) M28 rfl (o_buildA (cs := [.sl 1 (y72.map c_i64) .no, .sl 1 (t10.map c_i64) (.tk gt10)]) ti25 U25 ti22 rfl (.agg ⟨rf, (.no _ _ _), trivial⟩)) <| OD (.sl 2 (([(A2_int.mk a0 a1), (A2_int.mk t9 t10), (A2_int.mk y72 t10)] : (List A2_int)).map c_A2_int) .ex) M28 rfl (o_buildSlice0 (cs := [.sl 1 (a0.map c_i64) .no, .sl 1 (a1.map c_i64) .no, .sl 1 (t9.map c_i64) .no, .sl 1 (t10.map c_i64) .no, .sl 1 (y72.map c_i64) .no, .sl 1 (t10.map c_i64) .no]) (pcs := [.sl 1 (a0.map c_i64), .sl 1 (a1.map c_i64), .sl 1 (t9.map c_i64), .sl 1 (t10.map c_i64), .sl 1 (y72.map c_i64), .sl 1 (t10.map c_i64)]) U27 ti25 rfl (by decide) rfl rfl rf) <| OD (kI (([(A2_int.mk a0 a1), (A2_int.mk t9 t10), (A2_int.mk y72 t10)] : (List A2_int)).length : Int)) M28 rfl (o_lenL U27 rfl) ?_
      refine OR 1 rfl <| nt ?_
      obtain ⟨vc77, h, k76⟩ := kont_some h
      refine aw_tailD (S := Unit) (G := Unit) vc77 (fun s g => Frm.of []) (fun s g M => H <+: M) ?_ ?_
      ·refine aw_block ?_
       refine aw_loopD (S := Int) (G := Unit) (H1 := M28) h (fun s g => Frm.of [(2, kI a2), (3, kY a3), (65, .sl 2 (([(A2_int.mk a0 a1), (A2_int.mk t9 t10), (A2_int.mk y72 t10)] : (List A2_int)).map c_A2_int) .ex), (66, kI (([(A2_int.mk a0 a1), (A2_int.mk t9 t10), (A2_int.mk y72 t10)] : (List A2_int)).length : Int)), (67, kI s)]) (fun s g M => H <+: M) () hp29 (flr rfl) ?_
       intro t6782 g1 M83 vc86 hI h k85
       obtain ⟨⟩ := g1
       have hp84 := hI
       unfold mementolaw6_ConfTells_L3 at h
       refine sr (by decide) <| OR 1 rfl <| nt <| aw_seq ?_
       refine aT h rfl (fun hb87 h => ?_) (fun hb87 h => ?_)
       ·refine aw_skip <| thenQ_n <| aw_seq <| aw_block <| sr (by decide) ?_
        obtain ⟨x88, qx88, h⟩ := bs h
        refine OD _ M83 rfl (o_indexAddr (c := c_A2_int) U27 ti25 rfl rfl qx88) <| OD (.ag [.sl 1 (x88.f0.map c_i64) .no, .sl 1 (x88.f1.map c_i64) .no]) M83 rfl (o_loadEA ag25 ti25 rfl (Nat.le_of_ble_eq_true rfl) rf) ?_
        obtain ⟨M89, hM89⟩ := nM (M83 ++ [(.cells [.sc (.slice none 0 0), .sc (.slice none 0 0)])])
        obtain ⟨e90, he90⟩ := nE (M83.length)
        refine OD (.pt e90 0) M89 rfl (by rw [he90]; exact o_alloc ti25 hM89) ?_
        have hp91 := eqP hM89 (pre_app hp84)
        have f92 := nwE hM89 he90
        have lo93 := loE he90 hp84
        obtain ⟨M94, hM94⟩ := nM (M89.set e90 (.cells [.sl 1 (x88.f0.map c_i64) .no, .sl 1 (x88.f1.map c_i64) .no]))
        refine OD (undefA) M94 rfl (o_store (cs' := [.sl 1 (x88.f0.map c_i64) .no, .sl 1 (x88.f1.map c_i64) .no]) ti25 rfl rfl f92 (sz _) rfl rfl rfl (Nat.le_of_ble_eq_true rfl) rfl hM94) ?_
        have f95 := eqM hM94 (get_self f92)
        have hp96 := eqP hM94 (pre_hi hp91 lo93)
        refine nt <| aw_seq <| sr (by decide) <| OR 3 rfl <| OD (kI (w64 (Int.tmod a3 9))) M94 rfl (o_convI U5 U3 rfl) <| OD (.sl 1 (([a2, (w64 (Int.tmod a3 9))] : (List Int)).map c_i64) .ex) M94 rfl (o_buildSlice0 (cs := [kI a2, kI (w64 (Int.tmod a3 9))]) (pcs := [.sc (.int .i64 a2), .sc (.int .i64 (w64 (Int.tmod a3 9)))]) U22 ti3 rfl (by decide) rfl rfl rf) ?_
        refine OD (kI (([a2, (w64 (Int.tmod a3 9))] : (List Int)).length : Int)) M94 rfl (o_lenL U22 rfl) <| OR 1 rfl <| nt ?_
        obtain ⟨vc101, h, k100⟩ := kont_some h
        refine aw_tailD (S := Unit) (G := Unit) vc101 (fun s g => Frm.of [(2, kI a2), (3, kY a3), (14, .pt e90 0), (65, .sl 2 (([(A2_int.mk a0 a1), (A2_int.mk t9 t10), (A2_int.mk y72 t10)] : (List A2_int)).map c_A2_int) .ex), (66, kI (([(A2_int.mk a0 a1), (A2_int.mk t9 t10), (A2_int.mk y72 t10)] : (List A2_int)).length : Int)), (67, kI t6782)]) (fun s g M => H <+: M ∧ M[e90]? = some (.cells [.sl 1 (x88.f0.map c_i64) .no, .sl 1 (x88.f1.map c_i64) .no])) ?_ ?_
        ·refine aw_block ?_
         refine aw_loopD (S := Int) (G := Unit) (H1 := M94) h (fun s g => Frm.of [(2, kI a2), (3, kY a3), (14, .pt e90 0), (65, .sl 2 (([(A2_int.mk a0 a1), (A2_int.mk t9 t10), (A2_int.mk y72 t10)] : (List A2_int)).map c_A2_int) .ex), (66, kI (([(A2_int.mk a0 a1), (A2_int.mk t9 t10), (A2_int.mk y72 t10)] : (List A2_int)).length : Int)), (67, kI t6782), (75, .sl 1 (([a2, (w64 (Int.tmod a3 9))] : (List Int)).map c_i64) .ex), (76, kI (([a2, (w64 (Int.tmod a3 9))] : (List Int)).length : Int)), (77, kI s)]) (fun s g M => H <+: M ∧ M[e90]? = some (.cells [.sl 1 (x88.f0.map c_i64) .no, .sl 1 (x88.f1.map c_i64) .no])) () ⟨hp96, f95⟩ (flr rfl) ?_
         intro t77108 g1 M109 vc113 hI h k112
         obtain ⟨⟩ := g1
         obtain ⟨hp110, f111⟩ := hI
         unfold mementolaw6_ConfTells_L4 at h
         refine sr (by decide) <| OR 1 rfl <| nt <| aw_seq ?_
         refine aT h rfl (fun hb114 h => ?_) (fun hb114 h => ?_)
         ·refine aw_skip <| thenQ_n <| aw_seq <| aw_block <| sr (by decide) ?_
          obtain ⟨x115, qx115, h⟩ := bs h
          refine OD _ M109 rfl (o_indexAddr (c := c_i64) U22 ti3 rfl rfl qx115) <| OD (kI x115) M109 rfl (o_loadE ag3 ti3 rfl rf) <| OR 1 rfl <| nt ?_
          obtain ⟨t113, h, k119⟩ := bs h
          refine aw_joinS (S := Bool) (G := Unit) t113 (fun s g => Frm.of [(2, kI a2), (3, kY a3), (14, .pt e90 0), (65, .sl 2 (([(A2_int.mk a0 a1), (A2_int.mk t9 t10), (A2_int.mk y72 t10)] : (List A2_int)).map c_A2_int) .ex), (66, kI (([(A2_int.mk a0 a1), (A2_int.mk t9 t10), (A2_int.mk y72 t10)] : (List A2_int)).length : Int)), (67, kI t6782), (75, .sl 1 (([a2, (w64 (Int.tmod a3 9))] : (List Int)).map c_i64) .ex), (76, kI (([a2, (w64 (Int.tmod a3 9))] : (List Int)).length : Int)), (77, kI t77108), (113, kB s)]) (fun s g M => H <+: M ∧ M[e90]? = some (.cells [.sl 1 (x88.f0.map c_i64) .no, .sl 1 (x88.f1.map c_i64) .no])) ?_ ?_
          ·refine aw_draw mixed [0, 1, 0, 0, 0, 1, 0, 0, 0, 0, 0, 1, 0, 0, 0, 1, 0, 0, 0, 0, 0, 0, 0, 1, 0, 0, 0, 1, 0, 0, 0, 0, 0] (by decide) (by kernel_rfl) <| DD0 (.pt e90 0) rfl (fun H0 => o_indexAddrC (off := 0) U25 ti22 rfl rfl (by decide) (by decide) rfl) <| DD1 _ rfl (fun H0 hB => o_loadP ag22 ti22 rfl (pre_get hB f111) rfl rf) <| DR 1 rfl ?_
           obtain ⟨y120, q121, h⟩ := bs h
           refine DD0 (kB y120) rfl (fun H0 => o_call (w_conf_Has x88.f0 x115 H0 q121) ⟨rf, rf, trivial⟩ rf) <| DD0 (.pt e90 0) rfl (fun H0 => o_indexAddrC (off := 0) U25 ti22 rfl rfl (by decide) (by decide) rfl) <| DD1 _ rfl (fun H0 hB => o_loadP ag22 ti22 rfl (pre_get hB f111) rfl rf) <| DR 1 rfl ?_
           obtain ⟨y122, q123, h⟩ := bs h
           refine DD0 (kB y122) rfl (fun H0 => o_call (w_mementoref6_Has x88.f0 x115 H0 q123) ⟨rf, rf, trivial⟩ rf) <| DD0 (kB (y120 != y122)) rfl (fun H0 => o_neB U4 rfl rfl) ?_
           refine dT0 h rfl (fun H0 => o_move rf) (fun hg124 h => ?_) (fun hg124 h => ?_)
           ·refine DR 23 rfl <| DRun_nil ?_
            obtain rfl := sI h
            exact thenQ_n ⟨(), M109, ⟨hp110, f111⟩, flr rfl⟩
           ·refine DD0 (.pt e90 0) rfl (fun H0 => o_indexAddrC (off := 0) U25 ti22 rfl rfl (by decide) (by decide) rfl) <| DD1 _ rfl (fun H0 hB => o_loadP ag22 ti22 rfl (pre_get hB f111) rfl rf) <| DR 1 rfl ?_
            obtain ⟨y125, q126, h⟩ := bs h
            refine DD0 (.sl 1 (y125.map c_i64) .no) rfl (fun H0 => o_call (w_conf_With x88.f0 x115 H0 q126) ⟨rf, rf, trivial⟩ rf) <| DD0 (.pt e90 0) rfl (fun H0 => o_indexAddrC (off := 0) U25 ti22 rfl rfl (by decide) (by decide) rfl) <| DD1 _ rfl (fun H0 hB => o_loadP ag22 ti22 rfl (pre_get hB f111) rfl rf) <| DR 1 rfl ?_
            obtain ⟨y127, q128, h⟩ := bs h
            refine DD0 (.sl 1 (y127.map c_i64) .no) rfl (fun H0 => o_call (w_mementoref6_With x88.f0 x115 H0 q128) ⟨rf, rf, trivial⟩ rf) ?_
            obtain ⟨y129, q130, h⟩ := bs h
            refine DD0 (kB y129) rfl (fun H0 => o_call (w_mementohelp_Ints y125 y127 H0 q130) ⟨rf, rf, trivial⟩ rf) <| DR 2 rfl ?_
            refine dT0 h rfl (fun H0 => o_move rf) (fun hg131 h => ?_) (fun hg131 h => ?_)
            ·refine DR 11 rfl <| DRun_nil ?_
             obtain rfl := sI h
             exact thenQ_n ⟨(), M109, ⟨hp110, f111⟩, flr rfl⟩
            ·refine DD0 (.pt e90 0) rfl (fun H0 => o_indexAddrC (off := 0) U25 ti22 rfl rfl (by decide) (by decide) rfl) <| DD1 _ rfl (fun H0 hB => o_loadP ag22 ti22 rfl (pre_get hB f111) rfl rf) <| DR 1 rfl ?_
             obtain ⟨y132, q133, h⟩ := bs h
             refine DD0 (.sl 1 (y132.map c_i64) .no) rfl (fun H0 => o_call (w_conf_Without x88.f0 x115 H0 q133) ⟨rf, rf, trivial⟩ rf) <| DD0 (.pt e90 0) rfl (fun H0 => o_indexAddrC (off := 0) U25 ti22 rfl rfl (by decide) (by decide) rfl) <| DD1 _ rfl (fun H0 hB => o_loadP ag22 ti22 rfl (pre_get hB f111) rfl rf) <| DR 1 rfl ?_
             obtain ⟨y134, q135, h⟩ := bs h
             refine DD0 (.sl 1 (y134.map c_i64) .no) rfl (fun H0 => o_call (w_mementoref6_Without x88.f0 x115 H0 q135) ⟨rf, rf, trivial⟩ rf) ?_
             obtain ⟨y136, q137, h⟩ := bs h
             refine DD0 (kB y136) rfl (fun H0 => o_call (w_mementohelp_Ints y132 y134 H0 q137) ⟨rf, rf, trivial⟩ rf) <| DR 2 rfl <| DRun_nil ?_
             obtain rfl := sI h
             exact thenQ_n ⟨(), M109, ⟨hp110, f111⟩, flr rfl⟩
          ·rintro ⟨⟩ M116 ⟨hp117, f118⟩
           have h := k119
           refine aT h rfl (fun hb138 h => ?_) (fun hb138 h => ?_)
           ·refine sr (by decide) <| OR 1 rfl <| nt <| aw_ret <| blockQ_ret <| thenQ_ret ?_
            refine thenQ_ret ?_
            have h := early_ret h k112
            refine blockQ_ret <| thenQ_ret ?_
            have h := early_some h k100
            refine thenQ_ret <| blockQ_ret <| thenQ_ret <| thenQ_ret ?_
            have h := early_ret h k85
            refine blockQ_ret <| thenQ_ret ?_
            have h := early_some h k76
            refine thenQ_ret ?_
            obtain rfl := sI h
            exact done_tmp rfl rf hp117
           ·refine aw_skip <| blockQ_n <| thenQ_n <| aw_region (by decide) <| OR 2 rfl <| OpsS_nil ?_
            exact thenQ_n ⟨(w64 (t77108 + 1)), (), M116, (Option.some.inj h).symm, ⟨hp117, f118⟩, flr rfl⟩
         ·refine aw_exit <| thenQ_exit <| thenQ_exit ?_
          have h := early_ret h k112
          refine blockQ_exit ?_
          exact thenQ_n ⟨(), (), M109, (Option.some.inj h).symm, ⟨hp110, f111⟩, flr rfl⟩
        ·rintro ⟨⟩ ⟨⟩ M97 rfl ⟨hp98, f99⟩
         have h := kont_go k100
         refine thenQ_n ?_
         obtain ⟨t144, h, k142⟩ := bs h
         refine aw_joinS (S := Bool) (G := Unit) t144 (fun s g => Frm.of [(2, kI a2), (3, kY a3), (65, .sl 2 (([(A2_int.mk a0 a1), (A2_int.mk t9 t10), (A2_int.mk y72 t10)] : (List A2_int)).map c_A2_int) .ex), (66, kI (([(A2_int.mk a0 a1), (A2_int.mk t9 t10), (A2_int.mk y72 t10)] : (List A2_int)).length : Int)), (67, kI t6782), (144, kB s)]) (fun s g M => H <+: M ∧ M[e90]? = some (.cells [.sl 1 (x88.f0.map c_i64) .no, .sl 1 (x88.f1.map c_i64) .no])) ?_ ?_
         ·refine aw_draw mixed [0, 1, 0, 0, 1, 0, 0, 0, 0, 0, 1, 0, 0, 1, 0, 0, 0, 0, 0, 1, 0, 1, 0, 0, 1, 0, 1, 0, 0, 0] (by decide) (by kernel_rfl) <| DD0 (.pt e90 0) rfl (fun H0 => o_indexAddrC (off := 0) U25 ti22 rfl rfl (by decide) (by decide) rfl) <| DD1 _ rfl (fun H0 hB => o_loadP ag22 ti22 rfl (pre_get hB f99) rfl rf) ?_
          obtain ⟨y143, q144, h⟩ := bs h
          refine DD0 (.sl 1 (y143.map c_i64) .no) rfl (fun H0 => o_call (w_conf_Of x88.f0 H0 q144) ⟨rf, trivial⟩ rf) <| DD0 (.pt e90 0) rfl (fun H0 => o_indexAddrC (off := 0) U25 ti22 rfl rfl (by decide) (by decide) rfl) <| DD1 _ rfl (fun H0 hB => o_loadP ag22 ti22 rfl (pre_get hB f99) rfl rf) ?_
          obtain ⟨y145, q146, h⟩ := bs h
          refine DD0 (.sl 1 (y145.map c_i64) .no) rfl (fun H0 => o_call (w_mementoref6_Of x88.f0 H0 q146) ⟨rf, trivial⟩ rf) ?_
          obtain ⟨y147, q148, h⟩ := bs h
          refine DD0 (kB y147) rfl (fun H0 => o_call (w_mementohelp_Ints y143 y145 H0 q148) ⟨rf, rf, trivial⟩ rf) <| DR 1 rfl ?_
          refine dT0 h rfl (fun H0 => o_move rf) (fun hg149 h => ?_) (fun hg149 h => ?_)
          ·refine DR 21 rfl <| DRun_nil ?_
           obtain rfl := sI h
           exact thenQ_n ⟨(), M97, ⟨hp98, f99⟩, flr rfl⟩
          ·refine DD0 (.pt e90 0) rfl (fun H0 => o_indexAddrC (off := 0) U25 ti22 rfl rfl (by decide) (by decide) rfl) <| DD1 _ rfl (fun H0 hB => o_loadP ag22 ti22 rfl (pre_get hB f99) rfl rf) ?_
           obtain ⟨y150, q151, h⟩ := bs h
           refine DD0 (kB y150) rfl (fun H0 => o_call (w_conf_Right x88.f0 H0 q151) ⟨rf, trivial⟩ rf) <| DD0 (.pt e90 0) rfl (fun H0 => o_indexAddrC (off := 0) U25 ti22 rfl rfl (by decide) (by decide) rfl) <| DD1 _ rfl (fun H0 hB => o_loadP ag22 ti22 rfl (pre_get hB f99) rfl rf) ?_
           obtain ⟨y152, q153, h⟩ := bs h
           refine DD0 (kB y152) rfl (fun H0 => o_call (w_mementoref6_Right x88.f0 H0 q153) ⟨rf, trivial⟩ rf) <| DD0 (kB (y150 != y152)) rfl (fun H0 => o_neB U4 rfl rfl) <| DR 1 rfl ?_
           refine dT0 h rfl (fun H0 => o_move rf) (fun hg154 h => ?_) (fun hg154 h => ?_)
           ·refine DR 12 rfl <| DRun_nil ?_
            obtain rfl := sI h
            exact thenQ_n ⟨(), M97, ⟨hp98, f99⟩, flr rfl⟩
           ·refine DD0 (.pt e90 0) rfl (fun H0 => o_indexAddrC (off := 0) U25 ti22 rfl rfl (by decide) (by decide) rfl) <| DD1 _ rfl (fun H0 hB => o_loadP ag22 ti22 rfl (pre_get hB f99) rfl rf) <| DD0 (.pt e90 1) rfl (fun H0 => o_indexAddrC (off := 0) U25 ti22 rfl rfl (by decide) (by decide) rfl) <| DD1 _ rfl (fun H0 hB => o_loadP ag22 ti22 rfl (pre_get hB f99) rfl rf) ?_
            obtain ⟨y155, q156, h⟩ := bs h
            refine DD0 (kB y155) rfl (fun H0 => o_call (w_conf_Most x88.f0 x88.f1 H0 q156) ⟨rf, rf, trivial⟩ rf) <| DD0 (.pt e90 0) rfl (fun H0 => o_indexAddrC (off := 0) U25 ti22 rfl rfl (by decide) (by decide) rfl) <| DD1 _ rfl (fun H0 hB => o_loadP ag22 ti22 rfl (pre_get hB f99) rfl rf) <| DD0 (.pt e90 1) rfl (fun H0 => o_indexAddrC (off := 0) U25 ti22 rfl rfl (by decide) (by decide) rfl) <| DD1 _ rfl (fun H0 hB => o_loadP ag22 ti22 rfl (pre_get hB f99) rfl rf) ?_
            obtain ⟨y157, q158, h⟩ := bs h
            refine DD0 (kB y157) rfl (fun H0 => o_call (w_mementoref6_Most x88.f0 x88.f1 H0 q158) ⟨rf, rf, trivial⟩ rf) <| DD0 (kB (y155 != y157)) rfl (fun H0 => o_neB U4 rfl rfl) <| DR 1 rfl <| DRun_nil ?_
            obtain rfl := sI h
            exact thenQ_n ⟨(), M97, ⟨hp98, f99⟩, flr rfl⟩
         ·rintro ⟨⟩ M139 ⟨hp140, f141⟩
          have h := k142
          refine aT h rfl (fun hb159 h => ?_) (fun hb159 h => ?_)
          ·refine sr (by decide) <| OR 1 rfl <| nt <| aw_ret <| blockQ_ret <| thenQ_ret ?_
           refine thenQ_ret ?_
           have h := early_ret h k85
           refine blockQ_ret <| thenQ_ret ?_
           have h := early_some h k76
           refine thenQ_ret ?_
           obtain rfl := sI h
           exact done_tmp rfl rf hp140
          ·refine aw_skip <| blockQ_n <| thenQ_n <| aw_region (by decide) <| OR 2 rfl <| OpsS_nil ?_
           exact thenQ_n ⟨(w64 (t6782 + 1)), (), M139, (Option.some.inj h).symm, hp140, flr rfl⟩
       ·refine aw_exit <| thenQ_exit <| thenQ_exit ?_
        have h := early_ret h k85
        refine blockQ_exit ?_
        exact thenQ_n ⟨(), (), M83, (Option.some.inj h).symm, hp84, Reb.fl trivial⟩
      ·rintro ⟨⟩ ⟨⟩ M74 rfl hp75
       have h := kont_go k76
       refine thenQ_n <| sr (by decide) <| OR 1 rfl <| nt <| aw_ret ?_
       obtain rfl := sI h
       exact done_tmp rfl rf hp75
end Go.Proofs.Ytafccpphghhnjaa.Am
namespace Go.Proofs.Ytafccpphghhnjaa.Am
open Go Go.RowKit Go.Deep
set_option linter.unusedVariables false
variable {P : Program}
theorem Cd_ik {t : TypeId} {k : IntKind} {c : Int → List PV} (hc : ∀ n, c n = [.sc (.int k n)]) (ht : P.underlying t = some (.int k)) : Cd P t 1 fun ps => ∃ n, ps = c n ∧ Ik k n :=
 Cd.mono (fun ps ⟨n, h1, h2, h3⟩ => ⟨n, by rw [hc, h1], h2, h3⟩) (Cd_int ht)
theorem Cd_l {α : Type} {t e : TypeId} {z b : Nat} {c : α → List PV} {Q : α → Prop} (ht : P.underlying t = some (.slice e)) (hz : P.cellsOf e = z) (hb : P.bytesOf e = b) (hpos : 0 < z) (h : Cd P e z fun ps => ∃ a, ps = c a ∧ Q a) :
  Cd P t 1 fun ps => ∃ l : List α, ps = c_L z c l ∧ (∀ a ∈ l, Q a) ∧ l.length * b ≤ 140737488351232 := Cd.mono (fun ps ⟨es, h1, h2, h3⟩ => by
 have : ∃ l : List α, es = l.map c ∧ ∀ a ∈ l, Q a := by
  clear h1 h3
  induction es with
  | nil => exact ⟨[], rfl, fun a h => nomatch h⟩
  | cons e es ih =>
   obtain ⟨a, ha, hq⟩ := h2 e (List.mem_cons_self ..)
   obtain ⟨l, hl, hl2⟩ := ih fun x hx => h2 x (List.mem_cons_of_mem _ hx)
   exact ⟨a :: l, by rw [ha, hl]; rfl, fun b hb => by
    rcases List.mem_cons.1 hb with rfl | hb
    ·exact hq
    ·exact hl2 b hb⟩
 obtain ⟨l, rfl, hl⟩ := this
 exact ⟨l, h1, hl, by rw [← hb]; simpa using h3⟩) (Cd_slice ht hz hpos h)
def Flds (P : Program) : List Field → List Nat → List (List PV → Prop) → Nat → Prop
 | [], [], [], _ => True
 | f :: fs, z :: zs, R :: Rs, o => f.offset = o ∧ P.cellsOf f.type = z ∧ Cd P f.type z R ∧ Flds P fs zs Rs (o + z)
 | _, _, _, _ => False
def Prts : List (List PV → Prop) → List PV → Prop
 | [], ps => ps = []
 | R :: Rs, ps => ∃ a b, ps = a ++ b ∧ R a ∧ Prts Rs b
theorem Flds.read {T : Type} {enc : TypeId × Value → T} {W : World} {n : Nat} {cs : List Value} : ∀ {fs : List Field} {zs : List Nat} {Rs : List (List PV → Prop)} {o : Nat}, Flds P fs zs Rs o → o + zs.sum = cs.length →
  (∀ (j : Nat) f, fs[j]? = some f → ∃ y, DataW.trod enc P W 0 (fun _ => true) true n f.type ((cs.drop f.offset).take (P.cellsOf f.type)) = some y ∧ (y.1.weights P f.type).all (· ≤ reachBytes) = true) →
  ∃ ps, Prts Rs ps ∧ ps.length = zs.sum ∧ ∀ (k : Nat) p, ps[k]? = some p → ∃ v, cs[o + k]? = some v ∧ PR (g0 W).ro p v
 | [], [], [], o, _, _, _ => ⟨[], rfl, rfl, fun k p h => by simp at h⟩
 | f :: fs, z :: zs, R :: Rs, o, ⟨h1, h2, h3, h4⟩, hl, hx => by
  obtain ⟨y, hy, hyw⟩ := hx 0 f rfl
  rw [h1, h2] at hy
  obtain ⟨q1, ps, q2, q3, q4⟩ := h3 enc W n _ _ hy hyw
  obtain ⟨qs, r1, r2, r3⟩ := Flds.read h4 (by simp at hl; omega) fun j f hj => hx (j + 1) f hj
  refine ⟨ps ++ qs, ⟨ps, qs, rfl, q2, r1⟩, by simp [q3, r2], fun k p hk => ?_⟩
  rcases Nat.lt_or_ge k ps.length with hkl | hkl
  ·rw [List.getElem?_append_left hkl] at hk
   obtain ⟨v, v1, v2⟩ := q4 k p hk
   rw [List.getElem?_take_of_lt (by omega), List.getElem?_drop] at v1
   exact ⟨v, v1, v2⟩
  ·rw [List.getElem?_append_right hkl] at hk
   obtain ⟨v, v1, v2⟩ := r3 _ p hk
   exact ⟨v, by rw [← v1]; congr 1; omega, v2⟩
 | [], [], _ :: _, _, h, _, _ => h.elim
 | [], _ :: _, _, _, h, _, _ => h.elim
 | _ :: _, [], _, _, h, _, _ => h.elim
 | _ :: _, _ :: _, [], _, h, _, _ => h.elim
end Go.Proofs.Ytafccpphghhnjaa.Am
namespace Go.Proofs.Ytafccpphghhnjaa.Am
open Go
end Go.Proofs.Ytafccpphghhnjaa.Am
namespace Go.Proofs.Ytafccpphghhnjaa.Am
open Go
set_option linter.unusedVariables false
theorem loop_eq {S T : Type} {b : S → Option (Ctl T S)} (I : S → Prop) (m : S → Nat) (R : S → T)
  (step : ∀ s, I s → b s = some (.ret (R s)) ∨ ∃ s', b s = some (.go s') ∧ I s' ∧ m s' < m s ∧ R s' = R s) : ∀ (n : Nat) (s : S), I s → m s < n → loopN b n s = some (R s)
 | 0, s, _, h => absurd h (Nat.not_lt_zero _)
 | n + 1, s, hI, hm => by
  simp only [loopN]
  rcases step s hI with h | ⟨s', h, h1, h2, h3⟩
  ·rw [h]
  ·rw [h]
   simp only
   rw [loop_eq I m R step n s' h1 (by omega), h3]
theorem loop_eqF {S T : Type} {b : S → Option (Ctl T S)} (I : S → Prop) (m : S → Nat) (R : S → T) {s : S} (hI : I s) (hm : m s ≤ 1099511627776)
  (step : ∀ s, I s → b s = some (.ret (R s)) ∨ ∃ s', b s = some (.go s') ∧ I s' ∧ m s' < m s ∧ R s' = R s) : loopN b fuel s = some (R s) :=
 loop_eq I m R step fuel s hI (by unfold fuel; omega)
theorem idx_nat {α : Type} (l : List α) (i : Nat) : idx l (i : Int) = l[i]? := by unfold idx; rw [if_pos (by omega)]; simp
theorem idx_at {α : Type} {l : List α} {i : Nat} (h : i < l.length) : idx l (i : Int) = some l[i] := by rw [idx_nat, List.getElem?_eq_getElem h]
theorem app_of {α : Type} {b : Nat} {x y : List α} (h : (x.length + y.length) * b ≤ 140737488355328) (h2 : x.length + y.length ≤ 1099511627776) : app b x y = some (x ++ y) := by unfold app; rw [if_pos ⟨h, by omega⟩]
theorem updL_nat {α : Type} {l : List α} {i : Nat} {x : α} (h : i < l.length) : updL l (i : Int) x = some (l.set i x) := by unfold updL; rw [if_pos ⟨by omega, by omega⟩]; simp
end Go.Proofs.Ytafccpphghhnjaa.Am
namespace Go.Proofs.Ytafccpphghhnjaa.Am
open Go
set_option linter.unusedVariables false
set_option linter.unusedSimpArgs false
theorem loop_ex {S T : Type} {b : S → Option (Ctl T S)} (I : S → Prop) (m : S → Nat) (Post : T → Prop)
  (step : ∀ s, I s → (∃ r, b s = some (.ret r) ∧ Post r) ∨ ∃ s', b s = some (.go s') ∧ I s' ∧ m s' < m s) : ∀ (n : Nat) (s : S), I s → m s < n → ∃ r, loopN b n s = some r ∧ Post r
 | 0, s, _, h => absurd h (Nat.not_lt_zero _)
 | n + 1, s, hI, hm => by
  simp only [loopN]
  rcases step s hI with ⟨r, h, hp⟩ | ⟨s', h, h1, h2⟩
  ·rw [h]; exact ⟨r, rfl, hp⟩
  ·rw [h]
   simp only
   exact loop_ex I m Post step n s' h1 (by omega)
theorem loop_exF {S T : Type} {b : S → Option (Ctl T S)} {s : S} (I : S → Prop) (m : S → Nat) (Post : T → Prop) (hI : I s) (hm : m s ≤ 1099511627776)
  (step : ∀ s, I s → (∃ r, b s = some (.ret r) ∧ Post r) ∨ ∃ s', b s = some (.go s') ∧ I s' ∧ m s' < m s) : ∃ r, loopN b fuel s = some r ∧ Post r :=
 loop_ex I m Post step fuel s hI (by unfold fuel; omega)
theorem wrap_nat {k : Nat} (h : k ≤ 1000000) : IntKind.wrap .i64 ((k : Int) + 1) = ((k + 1 : Nat) : Int) := by rw [wrap64 (by omega) (by omega)]; omega
theorem wrap_pre {k : Nat} (h : k ≤ 1000000) (h0 : 0 < k) : IntKind.wrap .i64 ((k : Int) - 1) = ((k - 1 : Nat) : Int) := by rw [wrap64 (by omega) (by omega)]; omega
theorem index_eq {vs : List Int} {f : Int → Option Bool} {p : Int → Bool} (hf : ∀ x, f x = some (p x)) (hl : vs.length ≤ 100000) :
  ∃ r, slices_IndexFunc_Lint_int_own0 vs f = some r ∧ (r = -1 ∧ (∀ x ∈ vs, p x = false) ∨ ∃ (i : Nat) (h : i < vs.length), r = (i : Int) ∧ p vs[i] = true ∧ ∀ x ∈ vs.take i, p x = false) := by
 unfold slices_IndexFunc_Lint_int_own0
 obtain ⟨r, hr, hp⟩ := loop_exF (b := slices_IndexFunc_Lint_int_own0_L1 vs f) (s := 0) (fun s => ∃ j : Nat, s = (j : Int) ∧ j ≤ vs.length ∧ ∀ x ∈ vs.take j, p x = false) (fun s => (vs.length - s).toNat)
  (fun r => r = .go () ∧ (∀ x ∈ vs, p x = false) ∨ ∃ (i : Nat) (h : i < vs.length), r = .ret (i : Int) ∧ p vs[i] = true ∧ ∀ x ∈ vs.take i, p x = false) ⟨0, rfl, by omega, by simp⟩ (by simp; omega) (by
  rintro _ ⟨j, rfl, hj, hx⟩
  dsimp only [slices_IndexFunc_Lint_int_own0_L1]
  by_cases hjl : j < vs.length
  ·rw [if_pos (by simpa using hjl), idx_at hjl]
   simp only [Option.bind_some, hf]
   cases hp : p vs[j]
   ·right
    simp only [Bool.false_eq_true, if_false]
    refine ⟨((j + 1 : Nat) : Int), by rw [wrap_nat (by omega)], ⟨j + 1, rfl, hjl, fun x hx2 => ?_⟩, by omega⟩
    rw [List.take_succ_eq_append_getElem hjl] at hx2
    rcases List.mem_append.1 hx2 with h | h
    ·exact hx x h
    ·simp at h; subst h; exact hp
   ·left
    simp only [if_true]
    exact ⟨_, rfl, .inr ⟨j, hjl, rfl, hp, hx⟩⟩
  ·left
   have : j = vs.length := by omega
   subst this
   rw [if_neg (by simp)]
   rw [List.take_length] at hx
   exact ⟨_, rfl, .inl ⟨rfl, hx⟩⟩)
 rw [hr]
 rcases hp with ⟨rfl, h⟩ | ⟨i, h, rfl, h1, h2⟩
 ·exact ⟨-1, rfl, .inl ⟨rfl, h⟩⟩
 ·exact ⟨_, rfl, .inr ⟨i, h, rfl, h1, h2⟩⟩
theorem delete_eq {vs : List Int} {del : Int → Option Bool} {p : Int → Bool} (hf : ∀ x, del x = some (p x)) (hl : vs.length ≤ 100000) : slices_DeleteFunc_Lint_int vs del = some (vs.filter fun x => !p x) := by
 unfold slices_DeleteFunc_Lint_int
 obtain ⟨r, hr, hp⟩ := index_eq hf hl
 rw [hr]
 simp only [Option.bind_some]
 rcases hp with ⟨rfl, h⟩ | ⟨i0, hi0, rfl, h1, h2⟩
 ·have : vs.filter (fun x => !p x) = vs := List.filter_eq_self.2 fun x hx => by simp [h x hx]
  rw [this]; rfl
 have hne : ((i0 : Int) == -1) = false := by rw [beq_eq_false_iff_ne]; omega
 simp only [hne, Bool.false_eq_true, if_false, wrap_nat (show i0 ≤ 1000000 by omega)]
 obtain ⟨r, hr, i, m, rfl, hi, hm, ht⟩ := loop_exF (b := slices_DeleteFunc_Lint_int_L1 vs del) (s := ((i0 : Int), ((i0 + 1 : Nat) : Int), vs))
  (fun s => ∃ (i j : Nat) (m : List Int), s = ((i : Int), (j : Int), m) ∧ i < j ∧ j ≤ vs.length ∧ m.length = vs.length ∧ m.take i = (vs.take j).filter (fun x => !p x) ∧ m.drop j = vs.drop j) (fun s => (vs.length - s.2.1).toNat)
  (fun r => ∃ (i : Nat) (m : List Int), r = ((i : Int), m) ∧ i < vs.length ∧ m.length = vs.length ∧ m.take i = vs.filter (fun x => !p x))
  ⟨i0, i0 + 1, vs, rfl, by omega, hi0, rfl, by
   rw [List.take_succ_eq_append_getElem hi0, List.filter_append, List.filter_eq_self.2 fun x hx => by simp [h2 x hx]]
   simp [h1], rfl⟩ (by simp only; omega) (by
  rintro _ ⟨i, j, m, rfl, hij, hj, hm, ht, hd⟩
  dsimp only [slices_DeleteFunc_Lint_int_L1]
  by_cases hjl : j < vs.length
  ·right
   have hmj : m[j]'(by omega) = vs[j] := by
    have e1 : (m.drop j)[0]? = (vs.drop j)[0]? := by rw [hd]
    rw [List.getElem?_drop, List.getElem?_drop, Nat.add_zero, List.getElem?_eq_getElem (by omega), List.getElem?_eq_getElem hjl] at e1
    exact Option.some.inj e1
   have hd2 : m.drop (j + 1) = vs.drop (j + 1) := by rw [← List.drop_drop, ← List.drop_drop, hd]
   rw [if_pos (by simpa using hjl), idx_at (show j < m.length by omega), hmj]
   simp only [Option.bind_some, hf, wrap_nat (show j ≤ 1000000 by omega)]
   cases hp : p vs[j]
   ·simp only [Bool.not_false, if_true]
    rw [idx_at (show i < m.length by omega)]
    simp only [Option.bind_some]
    rw [updL_nat (show i < m.length by omega)]
    simp only [Option.bind_some, wrap_nat (show i ≤ 1000000 by omega)]
    refine ⟨_, rfl, ⟨i + 1, j + 1, m.set i vs[j], rfl, by omega, hjl, by simpa using hm, ?_, ?_⟩, by simp only; omega⟩
    ·rw [List.take_succ_eq_append_getElem (by simp; omega), List.take_set_of_le (Nat.le_refl _), List.getElem_set_self, ht, List.take_succ_eq_append_getElem hjl, List.filter_append]
     simp [hp]
    ·rw [List.drop_set_of_lt (by omega)]; exact hd2
   ·simp only [Bool.not_true, Bool.false_eq_true, if_false, Option.bind_some]
    refine ⟨_, rfl, ⟨i, j + 1, m, rfl, by omega, hjl, hm, ?_, hd2⟩, by simp only; omega⟩
    rw [ht, List.take_succ_eq_append_getElem hjl, List.filter_append]
    simp [hp]
  ·left
   have : j = vs.length := by omega
   subst this
   rw [if_neg (by simp)]
   rw [List.take_length] at ht
   exact ⟨_, rfl, i, m, rfl, hij, hm, ht⟩)
 rw [hr]
 simp only [Option.bind_some]
 unfold slcH
 rw [if_pos ⟨by omega, by omega, by omega⟩, if_pos ⟨by omega, by omega, by omega⟩]
 simp only [Option.bind_some, Int.toNat_natCast, Int.toNat_zero, Nat.sub_zero, Option.some.injEq]
 unfold fillL
 rw [List.append_assoc, List.take_append_of_le_length (by simp; omega), List.take_take, Nat.min_self, ht]
def gt (m : List Int) (k : Nat) : Int := m.getD k 0
theorem gt_at {m : List Int} {k : Nat} (h : k < m.length) : gt m k = m[k] := by unfold gt; rw [List.getD_eq_getElem?_getD, List.getElem?_eq_getElem h]; rfl
theorem idx_gt {m : List Int} {k : Nat} (h : k < m.length) : idx m (k : Int) = some (gt m k) := by rw [idx_at h, gt_at h]
theorem gt_set {m : List Int} {i k : Nat} {x : Int} (h : k < m.length) : gt (m.set i x) k = if i = k then x else gt m k := by
 rw [gt_at (by simpa using h), gt_at h, List.getElem_set]
theorem mem_gt {m : List Int} {x : Int} : x ∈ m ↔ ∃ k, k < m.length ∧ gt m k = x := by
 constructor
 ·intro h; obtain ⟨k, hk, rfl⟩ := List.getElem_of_mem h; exact ⟨k, hk, gt_at hk⟩
 ·rintro ⟨k, hk, rfl⟩; rw [gt_at hk]; exact List.getElem_mem _
theorem sort_eq {d : List Int} (hl : d.length ≤ 1000) : ∃ m, slices_Sort_Lint_int d = some m ∧ m.length = d.length ∧ (∀ x, x ∈ m ↔ x ∈ d) ∧ ∀ k l, k < l → l < m.length → gt m k ≤ gt m l := by
 refine ⟨d.mergeSort fun a b => decide (a ≤ b), by unfold slices_Sort_Lint_int; rw [if_pos (by omega)], List.length_mergeSort _, fun x => List.mem_mergeSort, fun k l h1 h2 => ?_⟩
 have hp := List.pairwise_mergeSort (le := fun a b : Int => decide (a ≤ b)) (fun a b c h1 h2 => by simp at h1 h2 ⊢; omega) (fun a b => by simp; omega) d
 have := List.pairwise_iff_getElem.1 hp k l (by omega) h2 h1
 rw [gt_at (by omega), gt_at h2]
 simpa using this
end Go.Proofs.Ytafccpphghhnjaa.Am
namespace Go.Proofs.Ytafccpphghhnjaa.Am
open Go
set_option linter.unusedVariables false
set_option linter.unusedSimpArgs false
def SSrt (m : List Int) : Prop := ∀ k l, k < l → l < m.length → gt m k < gt m l
theorem idxP_gt {m : List Int} {k n q : Nat} (h : q < n) (h2 : k + q < m.length) : idxP m k n (q : Int) = some (gt m (k + q)) := by
 unfold idxP
 rw [if_pos (by omega), show ((k : Int) + (q : Int)) = ((k + q : Nat) : Int) by omega, idx_gt h2]
theorem comp2_eq {vs : List Int} {k : Nat} (hl : vs.length ≤ 1000) (hk : k < vs.length) (h1 : 1 ≤ k) (hs : ∀ a b, a < b → b < vs.length → gt vs a ≤ gt vs b) (hst : ∀ a b, a < b → b < k → gt vs a < gt vs b) (hd : gt vs k = gt vs (k - 1)) :
  ∃ (p : Nat) (m : List Int), loopN (slices_Compact_Lint_int_L2 k (vs.length - k)) fuel ((k : Int), 1, vs) = some ((p : Int), m) ∧ p < vs.length ∧ 1 ≤ p ∧ m.length = vs.length ∧ (∀ a b, a < b → b < p → gt m a < gt m b) ∧
   ∀ x, (∃ a, a < p ∧ gt m a = x) ↔ x ∈ vs := by
 obtain ⟨r, hr, p, m, rfl, h⟩ := loop_exF (b := slices_Compact_Lint_int_L2 k (vs.length - k)) (s := ((k : Int), 1, vs))
  (fun s => ∃ (p q : Nat) (m : List Int), s = ((p : Int), (q : Int), m) ∧ 1 ≤ q ∧ k + q ≤ vs.length ∧ 1 ≤ p ∧ p + 1 ≤ k + q ∧ m.length = vs.length ∧ (∀ a b, a < b → b < p → gt m a < gt m b) ∧
   (∀ x, (∃ a, a < p ∧ gt m a = x) ↔ ∃ a, a < k + q ∧ gt vs a = x) ∧ gt m (p - 1) = gt vs (k + q - 1) ∧ ∀ a, k + q - 1 ≤ a → a < vs.length → gt m a = gt vs a) (fun s => (vs.length - s.2.1).toNat)
  (fun r => ∃ (p : Nat) (m : List Int), r = ((p : Int), m) ∧ p < vs.length ∧ 1 ≤ p ∧ m.length = vs.length ∧ (∀ a b, a < b → b < p → gt m a < gt m b) ∧ ∀ x, (∃ a, a < p ∧ gt m a = x) ↔ x ∈ vs)
  ⟨k, 1, vs, rfl, by omega, by omega, h1, by omega, rfl, hst, fun x => by
   constructor
   ·rintro ⟨a, ha, e⟩; exact ⟨a, by omega, e⟩
   ·rintro ⟨a, ha, e⟩
    by_cases h : a < k
    ·exact ⟨a, h, e⟩
    ·have : a = k := by omega
     subst this
     exact ⟨a - 1, by omega, by rw [← hd]; exact e⟩, by rw [show k + 1 - 1 = k by omega, hd], fun _ _ _ => rfl⟩ (by simp only; omega) (by
  rintro _ ⟨p, q, m, rfl, q1, q2, p1, p2, hm, hss, hx, hlast, hrest⟩
  dsimp only [slices_Compact_Lint_int_L2]
  by_cases hq : q < vs.length - k
  ·right
   have c : decide ((q : Int) < ((vs.length - k : Nat) : Int)) = true := by simp; omega
   rw [if_pos c, idxP_gt hq (by omega), wrap_pre (by omega) (by omega), idxP_gt (by omega) (by omega)]
   simp only [Option.bind_some, wrap_nat (show q ≤ 1000000 by omega)]
   have g1 : gt m (k + q) = gt vs (k + q) := hrest _ (by omega) (by omega)
   have g2 : gt m (k + (q - 1)) = gt vs (k + q - 1) := by rw [show k + (q - 1) = k + q - 1 by omega]; exact hrest _ (by omega) (by omega)
   have hle := hs (k + q - 1) (k + q) (by omega) (by omega)
   rw [g1, g2]
   by_cases e : gt vs (k + q) = gt vs (k + q - 1)
   ·have c2 : (gt vs (k + q) != gt vs (k + q - 1)) = false := by simp [e]
    simp only [c2, Bool.false_eq_true, if_false, Option.bind_some]
    refine ⟨_, rfl, ⟨p, q + 1, m, rfl, by omega, by omega, p1, by omega, hm, hss, fun x => (hx x).trans ?_, by rw [hlast, show k + (q + 1) - 1 = k + q by omega, e], fun a h1 h2 => hrest a (by omega) h2⟩, by simp only; omega⟩
    constructor
    ·rintro ⟨a, ha, e⟩; exact ⟨a, by omega, e⟩
    ·rintro ⟨a, ha, e2⟩
     by_cases h : a < k + q
     ·exact ⟨a, h, e2⟩
     ·have : a = k + q := by omega
      subst this
      exact ⟨k + q - 1, by omega, by rw [← e]; exact e2⟩
   ·have c2 : (gt vs (k + q) != gt vs (k + q - 1)) = true := by simp [e]
    simp only [c2, if_true]
    rw [idx_gt (show p < m.length by omega)]
    simp only [Option.bind_some]
    rw [updL_nat (show p < m.length by omega)]
    simp only [Option.bind_some, wrap_nat (show p ≤ 1000000 by omega)]
    have gk : ∀ t, t < m.length → gt (m.set p (gt vs (k + q))) t = if p = t then gt vs (k + q) else gt m t := fun t ht => gt_set ht
    refine ⟨_, rfl, ⟨p + 1, q + 1, m.set p (gt vs (k + q)), rfl, by omega, by omega, by omega, by omega, by simpa using hm, fun a b h1 h2 => ?_, fun x => ?_, ?_, fun a h1 h2 => ?_⟩, by simp only; omega⟩
    ·rw [gk a (by omega), gk b (by omega), if_neg (by omega)]
     by_cases eb : p = b
     ·rw [if_pos eb]
      have : gt m a ≤ gt m (p - 1) := by
       by_cases ea : a = p - 1
       ·subst ea; exact Int.le_refl _
       ·exact Int.le_of_lt (hss a (p - 1) (by omega) (by omega))
      omega
     ·rw [if_neg eb]; exact hss a b h1 (by omega)
    ·constructor
     ·rintro ⟨a, ha, e2⟩
      rw [gk a (by omega)] at e2
      by_cases ea : p = a
      ·rw [if_pos ea] at e2; exact ⟨k + q, by omega, e2⟩
      ·rw [if_neg ea] at e2
       obtain ⟨b, hb, e3⟩ := (hx x).1 ⟨a, by omega, e2⟩
       exact ⟨b, by omega, e3⟩
     ·rintro ⟨a, ha, e2⟩
      by_cases h : a < k + q
      ·obtain ⟨b, hb, e3⟩ := (hx x).2 ⟨a, h, e2⟩
       exact ⟨b, by omega, by rw [gk b (by omega), if_neg (by omega)]; exact e3⟩
      ·have : a = k + q := by omega
       subst this
       exact ⟨p, by omega, by rw [gk p (by omega), if_pos rfl]; exact e2⟩
    ·rw [show p + 1 - 1 = p by omega, gk p (by omega), if_pos rfl, show k + (q + 1) - 1 = k + q by omega]
    ·rw [gk a (by omega), if_neg (by omega)]; exact hrest a (by omega) h2
  ·left
   have e : k + q = vs.length := by omega
   have c : decide ((q : Int) < ((vs.length - k : Nat) : Int)) = false := by simp; omega
   rw [if_neg (by rw [c]; decide)]
   refine ⟨_, rfl, p, m, rfl, by omega, p1, hm, hss, fun x => (hx x).trans ?_⟩
   rw [mem_gt, e])
 exact ⟨p, m, hr, h⟩
theorem compact_eq {vs : List Int} (hl : vs.length ≤ 1000) (hs : ∀ a b, a < b → b < vs.length → gt vs a ≤ gt vs b) : ∃ m, slices_Compact_Lint_int vs = some m ∧ SSrt m ∧ ∀ x, x ∈ m ↔ x ∈ vs := by
 unfold slices_Compact_Lint_int
 by_cases h2 : vs.length < 2
 ·rw [if_pos (by simp; omega)]
  exact ⟨vs, rfl, fun k l h1 h3 => by omega, fun _ => Iff.rfl⟩
 rw [if_neg (by simp; omega)]
 obtain ⟨r, hr, hp⟩ := loop_exF (b := slices_Compact_Lint_int_L1 vs) (s := 1) (fun s => ∃ k : Nat, s = (k : Int) ∧ 1 ≤ k ∧ k ≤ vs.length ∧ ∀ a b, a < b → b < k → gt vs a < gt vs b) (fun s => (vs.length - s).toNat)
  (fun r => (∃ m, r = .ret m ∧ SSrt m ∧ ∀ x, x ∈ m ↔ x ∈ vs) ∨ r = .go () ∧ SSrt vs) ⟨1, rfl, by omega, by omega, fun a b h1 h2 => by omega⟩ (by simp; omega) (by
  rintro _ ⟨k, rfl, k1, k2, hst⟩
  dsimp only [slices_Compact_Lint_int_L1]
  by_cases hk : k < vs.length
  ·rw [if_pos (by simpa using hk), idx_gt hk, wrap_pre (by omega) k1, idx_gt (show k - 1 < vs.length by omega)]
   simp only [Option.bind_some]
   by_cases e : gt vs k = gt vs (k - 1)
   ·left
    rw [if_pos (by simpa using e)]
    have s1 : slcH vs.length (k : Int) ((vs.length : Nat) : Int) = some (k, vs.length - k) := by unfold slcH; rw [if_pos ⟨by omega, by omega, by omega⟩]; simp
    obtain ⟨p, m, e1, p2, p1, hm, hss, hx⟩ := comp2_eq hl hk k1 hs hst e
    have s2 : slcH vs.length (p : Int) ((vs.length : Nat) : Int) = some (p, vs.length - p) := by unfold slcH; rw [if_pos ⟨by omega, by omega, by omega⟩]; simp
    have s3 : slcH vs.length 0 (p : Int) = some (0, p) := by unfold slcH; rw [if_pos ⟨by omega, by omega, by omega⟩]; simp
    simp only [s1, Option.bind_some, e1, s2, s3]
    have ht : (fillL m p (vs.length - p) 0).take p = m.take p := by
     unfold fillL
     rw [List.append_assoc, List.take_append_of_le_length (by simp; omega), List.take_take, Nat.min_self]
    have gt_tk : ∀ t, t < p → gt (m.take p) t = gt m t := fun t h => by rw [gt_at (by simp; omega), gt_at (by omega), List.getElem_take]
    refine ⟨_, rfl, .inl ⟨_, rfl, ?_, fun x => ?_⟩⟩
    ·rw [ht]
     intro a b h1 h3
     rw [List.length_take] at h3
     rw [gt_tk a (by omega), gt_tk b (by omega)]
     exact hss a b h1 (by omega)
    ·rw [ht, ← hx x, mem_gt]
     constructor
     ·rintro ⟨a, ha, e⟩; rw [List.length_take] at ha; exact ⟨a, by omega, by rw [← gt_tk a (by omega)]; exact e⟩
     ·rintro ⟨a, ha, e⟩; exact ⟨a, by rw [List.length_take]; omega, by rw [gt_tk a ha]; exact e⟩
   ·right
    rw [if_neg (by simpa using e), wrap_nat (by omega)]
    refine ⟨_, rfl, ⟨k + 1, rfl, by omega, hk, fun a b h1 h3 => ?_⟩, by omega⟩
    by_cases eb : b = k
    ·subst eb
     have q := hs (b - 1) b (by omega) hk
     have : gt vs a ≤ gt vs (b - 1) := by
      by_cases ea : a = b - 1
      ·subst ea; exact Int.le_refl _
      ·exact Int.le_of_lt (hst a (b - 1) (by omega) (by omega))
     omega
    ·exact hst a b h1 (by omega)
  ·left
   have : k = vs.length := by omega
   subst this
   rw [if_neg (by simp)]
   exact ⟨_, rfl, .inr ⟨rfl, hst⟩⟩)
 rw [hr]
 rcases hp with ⟨m, rfl, h1, h3⟩ | ⟨rfl, h1⟩
 ·exact ⟨m, rfl, h1, h3⟩
 ·exact ⟨vs, rfl, h1, fun _ => Iff.rfl⟩
theorem SSrt.tail {x : Int} {m : List Int} (h : SSrt (x :: m)) : SSrt m ∧ ∀ y ∈ m, x < y := by
 refine ⟨fun k l h1 h2 => by have := h (k + 1) (l + 1) (by omega) (by simpa using h2); simpa [gt] using this, fun y hy => ?_⟩
 obtain ⟨k, hk, rfl⟩ := mem_gt.1 hy
 have := h 0 (k + 1) (by omega) (by simpa using hk)
 simpa [gt] using this
theorem SSrt.ext : ∀ {a b : List Int}, SSrt a → SSrt b → (∀ x, x ∈ a ↔ x ∈ b) → a = b
 | [], [], _, _, _ => rfl
 | [], y :: b, _, _, h => absurd ((h y).2 (List.mem_cons_self ..)) (by simp)
 | x :: a, [], _, _, h => absurd ((h x).1 (List.mem_cons_self ..)) (by simp)
 | x :: a, y :: b, h1, h2, h => by
  obtain ⟨t1, l1⟩ := h1.tail
  obtain ⟨t2, l2⟩ := h2.tail
  have e : x = y := by
   rcases List.mem_cons.1 ((h x).1 (List.mem_cons_self ..)) with e | e
   ·exact e
   ·rcases List.mem_cons.1 ((h y).2 (List.mem_cons_self ..)) with e2 | e2
    ·exact e2.symm
    ·have := l2 x e; have := l1 y e2; omega
  subst e
  rw [t1.ext t2 fun z => ?_]
  constructor
  ·intro hz
   rcases List.mem_cons.1 ((h z).1 (List.mem_cons_of_mem _ hz)) with e | e
   ·subst e; have := l1 z hz; omega
   ·exact e
  ·intro hz
   rcases List.mem_cons.1 ((h z).2 (List.mem_cons_of_mem _ hz)) with e | e
   ·subst e; have := l2 z hz; omega
   ·exact e
def may (n : Int) : Bool := decide (0 ≤ n) && decide (n < 7)
def ofS (l : List Int) : List Int := [0, 1, 2, 3, 4, 5, 6].filter fun n => decide (n ∈ l)
theorem mem_ofS {l : List Int} {x : Int} : x ∈ ofS l ↔ x ∈ l ∧ may x = true := by
 unfold ofS may
 rw [List.mem_filter]
 simp only [List.mem_cons, List.not_mem_nil, or_false, decide_eq_true_eq, Bool.and_eq_true]
 constructor
 ·rintro ⟨h, h2⟩; exact ⟨h2, by omega⟩
 ·rintro ⟨h, h2⟩; exact ⟨by omega, h⟩
theorem SSrt.filter (p : Int → Bool) : ∀ {a : List Int}, SSrt a → SSrt (a.filter p)
 | [], _ => fun k l _ h => by simp at h
 | x :: a, h => by
  obtain ⟨t, l⟩ := h.tail
  have ih := t.filter p
  rw [List.filter_cons]
  split
  ·intro k m h1 h2
   cases m with
   | zero => omega
   | succ m =>
    have h3 : m < (a.filter p).length := by simpa using h2
    cases k with
    | zero =>
     have := l _ ((List.mem_filter.1 (mem_gt.2 ⟨m, h3, rfl⟩)).1)
     simpa [gt] using this
    | succ k => have := ih k m (by omega) h3; simpa [gt] using this
  ·exact ih
theorem seven : SSrt [0, 1, 2, 3, 4, 5, 6] := by
 intro k l h1 h2
 simp only [List.length_cons, List.length_nil] at h2
 have : ∀ l : Fin 7, ∀ k : Fin 7, k < l → gt [0, 1, 2, 3, 4, 5, 6] k < gt [0, 1, 2, 3, 4, 5, 6] l := by decide
 exact this ⟨l, by omega⟩ ⟨k, by omega⟩ h1
theorem ofS_srt (l : List Int) : SSrt (ofS l) := seven.filter _
theorem ofS_len (l : List Int) : (ofS l).length ≤ 7 := List.length_filter_le _ _
theorem of_eq {l : List Int} (hl : l.length ≤ 100) : conf_Of l = some (ofS l) := by
 unfold conf_Of
 have hc : slices_Clone_Lint_int l = some l := by unfold slices_Clone_Lint_int; rw [app_of (by simp; omega) (by simp; omega)]; rfl
 have hd := delete_eq (vs := l) (del := fun z0 => conf_Of_1 z0) (p := fun x => !may x) (fun x => by
  unfold conf_Of_1 conf_may may
  by_cases h : 0 ≤ x
  ·simp [h]
  ·simp [h]) (by omega)
 rw [hc]
 simp only [Option.bind_some, hd, Bool.not_not]
 have hfl : (l.filter fun x => may x).length ≤ l.length := List.length_filter_le _ _
 obtain ⟨m, h1, h2, h3, h4⟩ := sort_eq (d := l.filter fun x => may x) (by omega)
 rw [h1]
 simp only [Option.bind_some, chkl, h2, if_true]
 obtain ⟨m', c1, c2, c3⟩ := compact_eq (vs := m) (by omega) h4
 rw [c1]
 simp only [Option.bind_some, Option.some.injEq]
 exact c2.ext (ofS_srt l) fun x => by rw [c3, h3, List.mem_filter, mem_ofS]
end Go.Proofs.Ytafccpphghhnjaa.Am
namespace Go.Proofs.Ytafccpphghhnjaa.Am
open Go
set_option linter.unusedVariables false
set_option linter.unusedSimpArgs false
theorem clone6 {l : List Int} (hl : l.length ≤ 100000) : slices_Clone_Lint_int l = some l := by unfold slices_Clone_Lint_int; rw [app_of (by simp; omega) (by simp; omega)]; rfl
theorem with_eq {l : List Int} (hl : l.length ≤ 99) (n : Int) : conf_With l n = some (ofS (l ++ [n])) := by
 unfold conf_With
 rw [clone6 (by omega)]
 simp only [Option.bind_some]
 rw [app_of (by simp; omega) (by simp; omega)]
 simp only [Option.bind_some]
 rw [of_eq (by simp; omega)]
 rfl
theorem without_eq {l : List Int} (hl : l.length ≤ 100) (n : Int) : conf_Without l n = some ((ofS l).filter fun x => !(x == n)) := by
 unfold conf_Without
 rw [of_eq hl]
 have := ofS_len l
 simp only [Option.bind_some]
 rw [delete_eq (del := fun z0 => conf_Without_1 z0 n) (p := fun x => x == n) (fun x => rfl) (by omega)]
 rfl
theorem has_eq {l : List Int} (hl : l.length ≤ 100000) (n : Int) : conf_Has l n = some (decide (n ∈ l)) := by
 unfold conf_Has slices_Contains_Lint_int slices_Index_Lint_int
 obtain ⟨r, hr, hp⟩ := loop_exF (b := slices_Index_Lint_int_L1 l n) (s := 0) (fun s => ∃ j : Nat, s = (j : Int) ∧ j ≤ l.length ∧ n ∉ l.take j) (fun s => (l.length - s).toNat)
  (fun r => r = .go () ∧ n ∉ l ∨ ∃ i : Nat, r = .ret (i : Int) ∧ n ∈ l) ⟨0, rfl, by omega, by simp⟩ (by simp; omega) (by
  rintro _ ⟨j, rfl, hj, hx⟩
  dsimp only [slices_Index_Lint_int_L1]
  by_cases hjl : j < l.length
  ·rw [if_pos (by simpa using hjl), idx_at hjl]
   simp only [Option.bind_some]
   by_cases e : n = l[j]
   ·left
    rw [if_pos (by simpa using e)]
    exact ⟨_, rfl, .inr ⟨j, rfl, by rw [e]; exact List.getElem_mem _⟩⟩
   ·right
    rw [if_neg (by simpa using e), wrap_nat (by omega)]
    refine ⟨_, rfl, ⟨j + 1, rfl, hjl, fun h => ?_⟩, by omega⟩
    rw [List.take_succ_eq_append_getElem hjl] at h
    rcases List.mem_append.1 h with h | h
    ·exact hx h
    ·simp at h; exact e h
  ·left
   have : j = l.length := by omega
   subst this
   rw [if_neg (by simp)]
   rw [List.take_length] at hx
   exact ⟨_, rfl, .inl ⟨rfl, hx⟩⟩)
 rw [hr]
 rcases hp with ⟨rfl, h⟩ | ⟨i, rfl, h⟩
 ·simp [kont, h]
 ·simp [kont, h]
theorem most_eq {l yes : List Int} (hl : l.length ≤ 100) (hy : yes.length ≤ 100000) : conf_Most l yes = some (decide (2 * ((ofS l).filter fun x => decide (x ∈ yes)).length > (ofS l).length)) := by
 unfold conf_Most
 rw [of_eq hl]
 simp only [Option.bind_some]
 have h7 := ofS_len l
 generalize ofS l = s at h7
 have hf := List.length_filter_le (fun x => decide (x ∈ yes)) s
 rw [loop_eqF (s := (0, 0)) (fun t => ∃ j : Nat, t = ((((s.take j).filter fun x => decide (x ∈ yes)).length : Int), (j : Int)) ∧ j ≤ s.length) (fun t => (s.length - t.2).toNat) (fun _ => ((s.filter fun x => decide (x ∈ yes)).length : Int)) ⟨0, by simp, by omega⟩ (by simp; omega)]
 ·simp only [Option.bind_some, Option.some.injEq, decide_eq_decide]
  rw [wrap64 (by omega) (by omega)]; omega
 rintro _ ⟨j, rfl, hj⟩
 dsimp only [conf_Most_L1]
 by_cases hjl : j < s.length
 ·right
  have hf2 := List.length_filter_le (fun x => decide (x ∈ yes)) (s.take j)
  rw [List.length_take] at hf2
  rw [if_pos (by simpa using hjl), idx_at hjl]
  simp only [Option.bind_some, has_eq hy, wrap_nat (show j ≤ 1000000 by omega)]
  have ht : ((s.take (j + 1)).filter fun x => decide (x ∈ yes)).length = ((s.take j).filter fun x => decide (x ∈ yes)).length + if s[j] ∈ yes then 1 else 0 := by
   rw [List.take_succ_eq_append_getElem hjl, List.filter_append, List.length_append, List.filter_cons]
   split <;> simp_all
  refine ⟨((((s.take (j + 1)).filter fun x => decide (x ∈ yes)).length : Int), ((j + 1 : Nat) : Int)), ?_, ⟨j + 1, rfl, hjl⟩, by simp only; omega, by first | trivial | rfl⟩
  rw [ht]
  by_cases h : s[j] ∈ yes
  ·simp only [h, decide_true, if_true, Option.bind_some]
   rw [wrap_nat (by omega)]
  ·simp only [h, decide_false, Bool.false_eq_true, if_false, Option.bind_some, Nat.add_zero]
 ·left
  have : j = s.length := by omega
  subst this
  rw [if_neg (by simp), List.take_length]
  rfl
end Go.Proofs.Ytafccpphghhnjaa.Am
namespace Go.Proofs.Ytafccpphghhnjaa.Am
open Go
set_option linter.unusedVariables false
set_option linter.unusedSimpArgs false
theorem same_refl {a : List Int} (hl : a.length ≤ 1000) : mementohelp_Ints a a = some true := by
 unfold mementohelp_Ints mementoref6_SameInts
 rw [if_neg (by simp)]
 rw [loop_eqF (s := 0) (fun t => ∃ j : Nat, t = (j : Int) ∧ j ≤ a.length) (fun t => (a.length - t).toNat) (fun _ => (Ctl.go () : Ctl Bool Unit)) ⟨0, rfl, by omega⟩ (by simp; omega)]
 ·rfl
 rintro _ ⟨j, rfl, hj⟩
 dsimp only [mementoref6_SameInts_L1]
 by_cases h : j < a.length
 ·right
  rw [if_pos (by simpa using h), idx_at h]
  simp only [Option.bind_some, bne_self_eq_false, Bool.false_eq_true, if_false, wrap_nat (show j ≤ 1000000 by omega)]
  exact ⟨_, rfl, ⟨j + 1, rfl, h⟩, by omega, by first | trivial | rfl⟩
 ·left
  rw [if_neg (by simpa using h)]; rfl
theorem equal_eq {a b : List Int} (hl : a.length ≤ 1000) : slices_Equal_Lint_int a b = some (decide (a = b)) := by
 unfold slices_Equal_Lint_int
 by_cases hab : a.length = b.length
 case neg =>
  rw [if_pos (by simpa using fun h => hab (by exact_mod_cast h))]
  rw [decide_eq_false fun h => hab (by rw [h])]
 rw [if_neg (by simp [hab])]
 obtain ⟨r, hr, hp⟩ := loop_exF (b := slices_Equal_Lint_int_L1 a b) (s := 0) (fun s => ∃ j : Nat, s = (j : Int) ∧ j ≤ a.length ∧ a.take j = b.take j) (fun s => (a.length - s).toNat)
  (fun r => r = .go () ∧ a = b ∨ r = .ret false ∧ a ≠ b) ⟨0, rfl, by omega, by simp⟩ (by simp; omega) (by
  rintro _ ⟨j, rfl, hj, hx⟩
  dsimp only [slices_Equal_Lint_int_L1]
  by_cases hjl : j < a.length
  ·have hjb : j < b.length := by omega
   rw [if_pos (by simpa using hjl), idx_at hjl, idx_at hjb]
   simp only [Option.bind_some]
   by_cases e : a[j] = b[j]
   ·right
    rw [if_neg (by simpa using e), wrap_nat (by omega)]
    exact ⟨_, rfl, ⟨j + 1, rfl, hjl, by rw [List.take_succ_eq_append_getElem hjl, List.take_succ_eq_append_getElem hjb, hx, e]⟩, by omega⟩
   ·left
    rw [if_pos (by simpa using e)]
    exact ⟨_, rfl, .inr ⟨rfl, fun h => e (by subst h; rfl)⟩⟩
  ·left
   have : j = a.length := by omega
   subst this
   rw [if_neg (by simp)]
   rw [List.take_length, hab, List.take_length] at hx
   exact ⟨_, rfl, .inl ⟨rfl, hx⟩⟩)
 rw [hr]
 rcases hp with ⟨rfl, h⟩ | ⟨rfl, h⟩
 ·simp [kont, h]
 ·simp [kont, h]
theorem rhas_eq {l : List Int} (hl : l.length ≤ 100000) (n : Int) : mementoref6_Has l n = some (decide (n ∈ l)) := by
 unfold mementoref6_Has
 obtain ⟨r, hr, hp⟩ := loop_exF (b := mementoref6_Has_L1 l n) (s := 0) (fun s => ∃ j : Nat, s = (j : Int) ∧ j ≤ l.length ∧ n ∉ l.take j) (fun s => (l.length - s).toNat)
  (fun r => r = .go () ∧ n ∉ l ∨ r = .ret true ∧ n ∈ l) ⟨0, rfl, by omega, by simp⟩ (by simp; omega) (by
  rintro _ ⟨j, rfl, hj, hx⟩
  dsimp only [mementoref6_Has_L1]
  by_cases hjl : j < l.length
  ·rw [if_pos (by simpa using hjl), idx_at hjl]
   simp only [Option.bind_some]
   by_cases e : l[j] = n
   ·left
    rw [if_pos (by simpa using e)]
    exact ⟨_, rfl, .inr ⟨rfl, by rw [← e]; exact List.getElem_mem _⟩⟩
   ·right
    rw [if_neg (by simpa using e), wrap_nat (by omega)]
    refine ⟨_, rfl, ⟨j + 1, rfl, hjl, fun h => ?_⟩, by omega⟩
    rw [List.take_succ_eq_append_getElem hjl] at h
    rcases List.mem_append.1 h with h | h
    ·exact hx h
    ·simp at h; exact e h.symm
  ·left
   have : j = l.length := by omega
   subst this
   rw [if_neg (by simp)]
   rw [List.take_length] at hx
   exact ⟨_, rfl, .inl ⟨rfl, hx⟩⟩)
 rw [hr]
 rcases hp with ⟨rfl, h⟩ | ⟨rfl, h⟩
 ·simp [kont, h]
 ·simp [kont, h]
theorem rof_eq {l : List Int} (hl : l.length ≤ 100000) : mementoref6_Of l = some (ofS l) := by
 unfold mementoref6_Of
 obtain ⟨r, hr, hp⟩ := loop_exF (b := mementoref6_Of_L1 l) (s := ([], 0)) (fun t => ∃ j : Nat, t = (([0, 1, 2, 3, 4, 5, 6].take j).filter fun n => decide (n ∈ l), (j : Int)) ∧ j ≤ 7) (fun t => (7 - t.2).toNat)
  (fun r => r = ofS l) ⟨0, by simp, by omega⟩ (by simp) (by
  rintro _ ⟨j, rfl, hj⟩
  dsimp only [mementoref6_Of_L1]
  by_cases hjl : j < 7
  ·right
   rw [if_pos (by simp; omega), rhas_eq hl]
   have hx : ([0, 1, 2, 3, 4, 5, 6] : List Int).take (j + 1) = ([0, 1, 2, 3, 4, 5, 6] : List Int).take j ++ [(j : Int)] := by
    match j, hjl with
    | 0, _ => rfl
    | 1, _ => rfl
    | 2, _ => rfl
    | 3, _ => rfl
    | 4, _ => rfl
    | 5, _ => rfl
    | 6, _ => rfl
   have hfl : ((([0, 1, 2, 3, 4, 5, 6] : List Int).take j).filter fun n => decide (n ∈ l)).length ≤ 7 := by
    have h1 := List.length_filter_le (fun n => decide (n ∈ l)) (([0, 1, 2, 3, 4, 5, 6] : List Int).take j)
    rw [List.length_take] at h1
    omega
   refine ⟨(((([0, 1, 2, 3, 4, 5, 6] : List Int).take (j + 1)).filter fun n => decide (n ∈ l)), ((j + 1 : Nat) : Int)), ?_, ⟨j + 1, rfl, by omega⟩, by simp only; omega⟩
   rw [hx, List.filter_append]
   by_cases h : (j : Int) ∈ l
   ·simp only [Option.bind_some, h, decide_true, if_true, List.filter_cons, List.filter_nil]
    rw [app_of (by simp; omega) (by simp; omega)]
    simp only [Option.bind_some, wrap_nat (show j ≤ 1000000 by omega)]
   ·simp only [Option.bind_some, h, decide_false, Bool.false_eq_true, if_false, List.filter_cons, List.filter_nil, List.append_nil, wrap_nat (show j ≤ 1000000 by omega)]
  ·left
   have : j = 7 := by omega
   subst this
   rw [if_neg (by simp)]
   exact ⟨_, rfl, rfl⟩)
 rw [hr, hp]
 rfl
theorem rwith_eq {l : List Int} (hl : l.length ≤ 1000) (n : Int) : mementoref6_With l n = some (ofS (l ++ [n])) := by
 unfold mementoref6_With
 rw [app_of (by simp; omega) (by simp; omega), Option.bind_some, List.nil_append, app_of (by simp; omega) (by simp; omega), Option.bind_some, rof_eq (by simp; omega)]
 rfl
theorem ofS_without (l : List Int) (n : Int) : ofS (l.filter fun x => !(x == n)) = (ofS l).filter fun x => !(x == n) := by
 unfold ofS
 rw [List.filter_filter]
 congr 1
 funext x
 by_cases h : x ∈ l
 ·by_cases e : x = n <;> simp [h, e]
 ·simp [h]
theorem rwithout_eq {l : List Int} (hl : l.length ≤ 1000) (n : Int) : mementoref6_Without l n = some ((ofS l).filter fun x => !(x == n)) := by
 unfold mementoref6_Without
 obtain ⟨r, hr, hp⟩ := loop_exF (b := mementoref6_Without_L1 l n) (s := ([], 0)) (fun t => ∃ j : Nat, t = ((l.take j).filter fun x => !(x == n), (j : Int)) ∧ j ≤ l.length) (fun t => (l.length - t.2).toNat)
  (fun r => r = l.filter fun x => !(x == n)) ⟨0, by simp, by omega⟩ (by simp; omega) (by
  rintro _ ⟨j, rfl, hj⟩
  dsimp only [mementoref6_Without_L1]
  by_cases hjl : j < l.length
  ·right
   rw [if_pos (by simpa using hjl), idx_at hjl]
   have hfl := List.length_filter_le (fun x => !(x == n)) (l.take j)
   rw [List.length_take] at hfl
   refine ⟨((l.take (j + 1)).filter fun x => !(x == n), ((j + 1 : Nat) : Int)), ?_, ⟨j + 1, rfl, hjl⟩, by simp only; omega⟩
   rw [List.take_succ_eq_append_getElem hjl, List.filter_append]
   simp only [Option.bind_some]
   by_cases e : l[j] = n
   ·rw [if_neg (by simpa using e)]
    simp only [Option.bind_some, wrap_nat (show j ≤ 1000000 by omega), List.filter_cons, List.filter_nil, e, beq_self_eq_true, Bool.not_true, Bool.false_eq_true, if_false, List.append_nil]
   ·rw [if_pos (by simpa using e), app_of (by simp; omega) (by simp; omega)]
    have : (l[j] == n) = false := by simpa using e
    simp only [Option.bind_some, wrap_nat (show j ≤ 1000000 by omega), List.filter_cons, List.filter_nil, this, Bool.not_false, if_true]
  ·left
   have : j = l.length := by omega
   subst this
   rw [if_neg (by simp), List.take_length]
   exact ⟨_, rfl, rfl⟩)
 have hfl := List.length_filter_le (fun x => !(x == n)) l
 rw [hr, Option.bind_some, hp, rof_eq (by omega), ofS_without]
 rfl
theorem right_eq {l : List Int} (hl : l.length ≤ 100) : conf_Right l = some (decide (l ≠ [] ∧ l = ofS l)) := by
 unfold conf_Right
 by_cases h : l = []
 ·subst h; rfl
 have hp := List.length_pos_iff.2 h
 rw [if_pos (by simp; omega), of_eq hl, Option.bind_some, equal_eq (by omega)]
 simp [h]
theorem rright_eq {l : List Int} (hl : l.length ≤ 1000) : mementoref6_Right l = some (decide (l ≠ [] ∧ l = ofS l)) := by
 unfold mementoref6_Right
 rw [rof_eq (by omega), Option.bind_some]
 by_cases h : l = []
 ·subst h; rfl
 have hp := List.length_pos_iff.2 h
 rw [if_neg (by simp; omega), Option.bind_some]
 generalize hy : ofS l = y
 by_cases hab : l.length = y.length
 case neg =>
  rw [if_pos (by simpa using fun q => hab (by omega))]
  rw [decide_eq_false fun q => hab (by rw [← q.2])]
 rw [if_neg (by simp [hab])]
 obtain ⟨r, hr, hq⟩ := loop_exF (b := mementoref6_Right_L1 l y) (s := 0) (fun s => ∃ j : Nat, s = (j : Int) ∧ j ≤ l.length ∧ l.take j = y.take j) (fun s => (l.length - s).toNat)
  (fun r => r = .go () ∧ l = y ∨ r = .ret false ∧ l ≠ y) ⟨0, rfl, by omega, by simp⟩ (by simp; omega) (by
  rintro _ ⟨j, rfl, hj, hx⟩
  dsimp only [mementoref6_Right_L1]
  by_cases hjl : j < l.length
  ·have hjb : j < y.length := by omega
   rw [if_pos (by simpa using hjl), idx_at hjl, idx_at hjb]
   simp only [Option.bind_some]
   by_cases e : l[j] = y[j]
   ·right
    rw [if_neg (by simpa using e), wrap_nat (by omega)]
    exact ⟨_, rfl, ⟨j + 1, rfl, hjl, by rw [List.take_succ_eq_append_getElem hjl, List.take_succ_eq_append_getElem hjb, hx, e]⟩, by omega⟩
   ·left
    rw [if_pos (by simpa using e)]
    exact ⟨_, rfl, .inr ⟨rfl, fun h => e (by subst h; rfl)⟩⟩
  ·left
   have : j = l.length := by omega
   subst this
   rw [if_neg (by simp)]
   rw [List.take_length, hab, List.take_length] at hx
   exact ⟨_, rfl, .inl ⟨rfl, hx⟩⟩)
 rw [hr]
 rcases hq with ⟨rfl, h2⟩ | ⟨rfl, h2⟩
 ·simp [kont, h2]; exact fun q => h (by rw [h2, q])
 ·simp [kont, h2]
theorem rmost_eq {l yes : List Int} (hl : l.length ≤ 1000) (hy : yes.length ≤ 100000) : mementoref6_Most l yes = some (decide (2 * ((ofS l).filter fun x => decide (x ∈ yes)).length > (ofS l).length)) := by
 unfold mementoref6_Most
 rw [rof_eq (by omega)]
 simp only [Option.bind_some]
 have h7 := ofS_len l
 generalize ofS l = s at h7
 have hf := List.length_filter_le (fun x => decide (x ∈ yes)) s
 rw [loop_eqF (s := (0, 0)) (fun t => ∃ j : Nat, t = ((((s.take j).filter fun x => decide (x ∈ yes)).length : Int), (j : Int)) ∧ j ≤ s.length) (fun t => (s.length - t.2).toNat) (fun _ => ((s.filter fun x => decide (x ∈ yes)).length : Int)) ⟨0, by simp, by omega⟩ (by simp; omega)]
 ·simp only [Option.bind_some, Option.some.injEq, decide_eq_decide]
  rw [wrap64 (by omega) (by omega)]; omega
 rintro _ ⟨j, rfl, hj⟩
 dsimp only [mementoref6_Most_L1]
 by_cases hjl : j < s.length
 ·right
  have hf2 := List.length_filter_le (fun x => decide (x ∈ yes)) (s.take j)
  rw [List.length_take] at hf2
  rw [if_pos (by simpa using hjl), idx_at hjl]
  simp only [Option.bind_some, rhas_eq hy, wrap_nat (show j ≤ 1000000 by omega)]
  have ht : ((s.take (j + 1)).filter fun x => decide (x ∈ yes)).length = ((s.take j).filter fun x => decide (x ∈ yes)).length + if s[j] ∈ yes then 1 else 0 := by
   rw [List.take_succ_eq_append_getElem hjl, List.filter_append, List.length_append, List.filter_cons]
   split <;> simp_all
  refine ⟨((((s.take (j + 1)).filter fun x => decide (x ∈ yes)).length : Int), ((j + 1 : Nat) : Int)), ?_, ⟨j + 1, rfl, hjl⟩, by simp only; omega, by first | trivial | rfl⟩
  rw [ht]
  by_cases h : s[j] ∈ yes
  ·simp only [h, decide_true, if_true, Option.bind_some]
   rw [wrap_nat (by omega)]
  ·simp only [h, decide_false, Bool.false_eq_true, if_false, Option.bind_some, Nat.add_zero]
 ·left
  have : j = s.length := by omega
  subst this
  rw [if_neg (by simp), List.take_length]; rfl
theorem known6 : mementolaw6_known = some true := by
 unfold mementolaw6_known
 rw [of_eq (by decide), Option.bind_some]
 rw [show ofS [2, 0, 9, 2, 1] = [0, 1, 2] from by decide]
 rw [right_eq (by decide), right_eq (by decide), most_eq (by decide) (by decide), most_eq (by decide) (by decide), most_eq (by decide) (by decide), with_eq (by decide), without_eq (by decide), has_eq (by decide)]
 decide
theorem place_some (x : Int) : ∃ y, mementohelp_Place x 8 = some y := by
 unfold mementohelp_Place remI
 rw [if_neg (by decide), Option.bind_some]
 split <;> exact ⟨_, rfl⟩
theorem l1_eq {l : List Int} (hl : l.length ≤ 20) : ∃ m, loopN (mementolaw6_ConfTells_L1 l) fuel ([], 0) = some m ∧ m.length = l.length := by
 refine loop_exF (fun t => ∃ (j : Nat) (m : List Int), t = (m, (j : Int)) ∧ j ≤ l.length ∧ m.length = j) (fun t => (l.length - t.2).toNat) (fun m : List Int => m.length = l.length) ⟨0, [], rfl, by omega, rfl⟩ (by simp; omega) ?_
 rintro _ ⟨j, m, rfl, hj, hm⟩
 dsimp only [mementolaw6_ConfTells_L1]
 by_cases hjl : j < l.length
 ·right
  obtain ⟨y, hy⟩ := place_some l[j]
  rw [if_pos (by simpa using hjl), idx_at hjl]
  simp only [Option.bind_some, hy]
  rw [app_of (by simp; omega) (by simp; omega)]
  simp only [Option.bind_some, wrap_nat (show j ≤ 1000000 by omega)]
  exact ⟨_, rfl, ⟨j + 1, _, rfl, hjl, by simp [hm]⟩, by simp only; omega⟩
 ·left
  rw [if_neg (by simp; omega)]
  exact ⟨m, rfl, by omega⟩
theorem l2_eq {l : List Int} (hl : l.length ≤ 20) : ∃ m, loopN (mementolaw6_ConfTells_L2 l) fuel ([], 0) = some m ∧ m.length = l.length := l1_eq hl
theorem l4_eq {k n : Int} {x : A2_int} (h0 : x.f0.length ≤ 20) : loopN (mementolaw6_ConfTells_L4 k n x) fuel 0 = some (.go ()) := by
 obtain ⟨L, hL⟩ : ∃ L, ([k, (IntKind.wrap .i64 (Int.tmod n 9))] : List Int) = L := ⟨_, rfl⟩
 have hLl : L.length = 2 := by rw [← hL]; rfl
 rw [loop_eqF (s := 0) (fun t => ∃ j : Nat, t = (j : Int) ∧ j ≤ 2) (fun t => (2 - t).toNat) (fun _ => (Ctl.go () : Ctl (Ctl (Ctl Bool Unit) Int) Unit)) ⟨0, rfl, by omega⟩ (by simp)]
 rintro _ ⟨j, rfl, hj⟩
 dsimp only [mementolaw6_ConfTells_L4]
 rw [hL]
 by_cases h : j < 2
 ·right
  rw [if_pos (by simp; omega), idx_at (by omega), Option.bind_some]
  have w7 := ofS_len (x.f0 ++ [L[j]])
  have q7 := ofS_len x.f0
  have f7 := List.length_filter_le (fun y => !(y == L[j])) (ofS x.f0)
  simp only [has_eq (show x.f0.length ≤ 100000 by omega), rhas_eq (show x.f0.length ≤ 100000 by omega), Option.bind_some, bne_self_eq_false, Bool.false_eq_true, if_false, with_eq (show x.f0.length ≤ 99 by omega), rwith_eq (show x.f0.length ≤ 1000 by omega),
   same_refl (show (ofS (x.f0 ++ [L[j]])).length ≤ 1000 by omega), Bool.not_true, without_eq (show x.f0.length ≤ 100 by omega), rwithout_eq (show x.f0.length ≤ 1000 by omega), same_refl (show ((ofS x.f0).filter fun y => !(y == L[j])).length ≤ 1000 by omega), wrap_nat (show j ≤ 1000000 by omega)]
  exact ⟨_, rfl, ⟨j + 1, rfl, by omega⟩, by omega, by first | trivial | rfl⟩
 ·left
  rw [if_neg (by simp; omega)]; rfl
theorem confTells_eq {a0 a1 : List Int} {k n : Int} : mementolaw6_ConfTells a0 a1 k n = some true := by
 unfold mementolaw6_ConfTells
 rw [known6, Option.bind_some, if_neg (by simp)]
 by_cases c0 : (a0.length : Int) > 20
 ·rw [if_pos (by simpa using c0)]; rfl
 rw [if_neg (by simpa using c0), Option.bind_some]
 by_cases c1 : (a1.length : Int) > 20
 ·rw [if_pos (by simpa using c1)]
 rw [if_neg (by simpa using c1)]
 obtain ⟨a, ha, ha2⟩ := l1_eq (l := a0) (by omega)
 obtain ⟨b, hb, hb2⟩ := l2_eq (l := a1) (by omega)
 rw [ha, Option.bind_some, hb, Option.bind_some, rof_eq (by omega), Option.bind_some]
 have h7 := ofS_len a
 obtain ⟨L, hL⟩ : ∃ L, ([(A2_int.mk a0 a1), (A2_int.mk a b), (A2_int.mk (ofS a) b)] : List A2_int) = L := ⟨_, rfl⟩
 have hLl : L.length = 3 := by rw [← hL]; rfl
 have hall : ∀ x ∈ L, x.f0.length ≤ 20 ∧ x.f1.length ≤ 20 := fun x hx => by
  rw [← hL] at hx
  simp only [List.mem_cons, List.not_mem_nil, or_false] at hx
  rcases hx with rfl | rfl | rfl <;> simp only <;> omega
 rw [loop_eqF (s := 0) (fun t => ∃ j : Nat, t = (j : Int) ∧ j ≤ 3) (fun t => (3 - t).toNat) (fun _ => (Ctl.go () : Ctl Bool Unit)) ⟨0, rfl, by omega⟩ (by simp)]
 ·rfl
 rintro _ ⟨j, rfl, hj⟩
 dsimp only [mementolaw6_ConfTells_L3]
 rw [hL]
 by_cases h : j < 3
 ·right
  rw [if_pos (by simp; omega), idx_at (by omega), Option.bind_some]
  obtain ⟨q0, q1⟩ := hall L[j] (List.getElem_mem _)
  have q7 := ofS_len (L[j]).f0
  rw [l4_eq q0]
  simp only [kont, Option.bind_some, of_eq (show (L[j]).f0.length ≤ 100 by omega), rof_eq (show (L[j]).f0.length ≤ 100000 by omega), same_refl (show (ofS (L[j]).f0).length ≤ 1000 by omega), Bool.not_true, Bool.false_eq_true, if_false, right_eq (show (L[j]).f0.length ≤ 100 by omega),
   rright_eq (show (L[j]).f0.length ≤ 1000 by omega), bne_self_eq_false, most_eq (show (L[j]).f0.length ≤ 100 by omega) (show (L[j]).f1.length ≤ 100000 by omega), rmost_eq (show (L[j]).f0.length ≤ 1000 by omega) (show (L[j]).f1.length ≤ 100000 by omega), wrap_nat (show j ≤ 1000000 by omega)]
  exact ⟨_, rfl, ⟨j + 1, rfl, by omega⟩, by omega, by first | trivial | rfl⟩
 ·left
  rw [if_neg (by simp; omega)]; rfl
end Go.Proofs.Ytafccpphghhnjaa.Am
