/- The judgements of the logic (an operation, code, a call) and the rules for code: sequences, tests, blocks, loops, regions in the text's order; calls out of bodies. -/
import Derived.Test.YteclchefihcjkaaM0
namespace Go.Proofs.Yteclchefihcjkaa.Am
open Go

def aev (fr : Frm) : Operand → AV
  | .tmp t => fr t
  | .const v => .sc v
  | .global _ => .any
  | .func f => .fn (.func f) [] []

theorem VR_aev {g : Gh} {n N : Nat} {fr : Frm} {a : Act} (h : FR g n N fr a.tmps) (x : Operand) : VR g n (aev fr x) (a.eval x) := by
  cases x with
  | tmp t => exact h.vr t
  | const v => exact .sc v
  | global g => exact .any _
  | func f => exact .fn _ [] [] #[] #[] rfl rfl (fun i c h => by simp at h) (fun i c h => by simp at h)

/-- What an operation's run leads to. -/
def Ls (P : Program) (K : Value → World → Prop) : Result Next → Prop
  | .ok (.value v) w => K v w
  | .ok .skip w => K undef w
  | .ok (.enter f args) w => Calls P f args w (fun e w' => ∃ v, e = .returned v ∧ K v w')
  | _ => False

theorem Ls.mono {P : Program} {K K' : Value → World → Prop} (hk : ∀ v w, K v w → K' v w) {r : Result Next} (h : Ls P K r) : Ls P K' r := by
  cases r with
  | ok x w =>
    cases x <;> simp only [Ls] at h ⊢
    case value v => exact hk _ _ h
    case skip => exact hk _ _ h
    case enter f args => exact h.mono fun e w' ⟨v, he, hv⟩ => ⟨v, he, hk _ _ hv⟩
  | halt x w => exact h

theorem wp_of_Ls {P : Program} {o : Oper} {a : Act} {w : World} {next : Act → World → Prop} {Q : Exit → Act → World → Prop} {K : Value → World → Prop}
    (h : Ls P K ((execOp a.eval o).run P w)) (hk : ∀ v w', K v w' → next (a.put o.dst v) w') : o.wp P a w next Q := by
  unfold Oper.wp
  generalize (execOp a.eval o).run P w = r at *
  cases r with
  | ok x w =>
    cases x <;> simp only [Ls] at h <;> simp only [Oper.upon]
    case value v => exact hk _ _ h
    case skip => exact hk _ _ h
    case enter f args => exact h.mono fun e w' ⟨v, he, hv⟩ => by subst he; exact hk _ _ hv
  | halt x w => exact h.elim

/-- What an operation, or a call, leaves: a value and a memory that the continuation takes. -/
def SR (n : Nat) (g : Gh) (w : World) (K : AV → Mem → Prop) (v : Value) (w' : World) : Prop :=
  ∃ r H' g', K r H' ∧ VR g' H'.length r v ∧ MR g' H' w' ∧ Ev n g w g' w' ∧ n ≤ H'.length

theorem SR.mono {n : Nat} {g : Gh} {w : World} {K K' : AV → Mem → Prop} (h : ∀ r H, K r H → K' r H) {v : Value} {w' : World} (s : SR n g w K v w') : SR n g w K' v w' :=
  let ⟨r, H', g', k, rest⟩ := s; ⟨r, H', g', h _ _ k, rest⟩

def OpS (P : Program) (o : Oper) (fr : Frm) (H : Mem) (K : AV → Mem → Prop) : Prop :=
  ∀ (g : Gh) (w : World) (ev : Operand → Value), (∀ x ∈ o.op.operands, VR g H.length (aev fr x) (ev x)) → MR g H w → Ls P (SR H.length g w K) ((execOp ev o).run P w)

theorem OpS.mono {P : Program} {o : Oper} {fr : Frm} {H : Mem} {K K' : AV → Mem → Prop} (hk : ∀ r H', K r H' → K' r H') (h : OpS P o fr H K) : OpS P o fr H K' :=
  fun g w ev h1 h2 => Ls.mono (fun _ _ => SR.mono hk) (h g w ev h1 h2)

/-- Is the operation carried out? By its guard's value in the frame. -/
def agd (ops : Array Oper) (fr : Frm) (o : Oper) : Option Bool :=
  match o.guard with
  | none => some true
  | some (j, want) =>
    match (ops[j]?).bind (·.dst) with
    | none => some false
    | some d =>
      match fr d with
      | .sc (.bool b) => some (b == want)
      | .sc (.tuple _) => some false
      | _ => none

theorem wanted_agd {g : Gh} {n N : Nat} {ops : Array Oper} {fr : Frm} {o : Oper} {tmps : Array Value} (h : FR g n N fr tmps) {b : Bool} (hg : agd ops fr o = some b) :
    Region.wanted o (yielded ops tmps) = b := by
  unfold agd at hg
  unfold Region.wanted
  cases hgd : o.guard with
  | none => rw [hgd] at hg; simpa using hg
  | some jw =>
    obtain ⟨j, want⟩ := jw
    rw [hgd] at hg
    simp only at hg ⊢
    unfold yielded
    cases hd : (ops[j]?).bind (·.dst) with
    | none => rw [hd] at hg; simp at hg; subst hg; simp
    | some d =>
      rw [hd] at hg
      simp only at hg
      have hv := h.vr d
      rw [Array.getD_eq_getD_getElem?] at hv
      split at hg
      · rename_i b' he
        rw [he] at hv
        cases hx : tmps[d]? with
        | none => rw [hx] at hv; simp only [Option.getD_none] at hv; unfold undef at hv; cases hv
        | some x =>
          rw [hx] at hv; simp only [Option.getD_some] at hv
          cases hv
          simp only [Option.some.injEq] at hg
          subst hg
          simp [hx]
      · rename_i vs he
        rw [he] at hv
        simp only [Option.some.injEq] at hg
        subst hg
        cases hx : tmps[d]? with
        | none => simp [hx]
        | some x =>
          rw [hx] at hv; simp only [Option.getD_some] at hv
          cases hv
          simp [hx]
      · cases hg

/-- A list of operations in the text's order. -/
def OpsS (P : Program) (ops : Array Oper) : List Oper → Frm → Mem → (Frm → Mem → Prop) → Prop
  | [], fr, H, K => K fr H
  | o :: rest, fr, H, K =>
    match agd ops fr o with
    | some true => OpS P o fr H fun r H' => OpsS P ops rest (fr.put o.dst r) H' K
    | some false => OpsS P ops rest (fr.put o.dst (.sc undef)) H K
    | none => False

/-- What a piece of code leaves. -/
def CR (N n : Nat) (g : Gh) (w : World) (Q : Exit → Frm → Mem → Prop) (e : Exit) (a : Act) (w' : World) : Prop :=
  a.defers = [] ∧ ∃ fr H' g', Q e fr H' ∧ FR g' H'.length N fr a.tmps ∧ MR g' H' w' ∧ Ev n g w g' w' ∧ n ≤ H'.length

def aw (P : Program) (N n0 : Nat) (c : Code) (fr : Frm) (H : Mem) (Q : Exit → Frm → Mem → Prop) : Prop :=
  ∀ (g : Gh) (w : World) (a : Act), n0 ≤ H.length → a.defers = [] → FR g H.length N fr a.tmps → MR g H w → c.wp P (CR N n0 g w Q) a w

theorem CR.mono {N n : Nat} {g : Gh} {w : World} {Q Q' : Exit → Frm → Mem → Prop} (h : ∀ e fr H, Q e fr H → Q' e fr H) {e : Exit} {a : Act} {w' : World} (c : CR N n g w Q e a w') : CR N n g w Q' e a w' :=
  let ⟨d, fr, H', g', q, rest⟩ := c; ⟨d, fr, H', g', h _ _ _ q, rest⟩

theorem aw.mono {P : Program} {N n0 : Nat} {c : Code} {fr : Frm} {H : Mem} {Q Q' : Exit → Frm → Mem → Prop} (hq : ∀ e fr H, Q e fr H → Q' e fr H) (h : aw P N n0 c fr H Q) : aw P N n0 c fr H Q' :=
  fun g w a hl hd hf hm => wp_mono (h g w a hl hd hf hm) fun _ _ _ => CR.mono hq

/-- From a later state on: what was reached so far stands ahead of it. -/
theorem aw.from {P : Program} {N n0 : Nat} {c : Code} {fr : Frm} {H : Mem} {Q : Exit → Frm → Mem → Prop} (h : aw P N n0 c fr H Q) {g0 g : Gh} {w0 w : World} {a : Act}
    (hd : a.defers = []) (hf : FR g H.length N fr a.tmps) (hm : MR g H w) (he : Ev n0 g0 w0 g w) (hn : n0 ≤ H.length) : c.wp P (CR N n0 g0 w0 Q) a w :=
  wp_mono (h g w a hn hd hf hm) fun _ _ _ ⟨d, fr', H', g', q, f, m, e, l⟩ => ⟨d, fr', H', g', q, f, m, he.trans e (Nat.le_refl _), l⟩

/-- The same state, told in other words: another frame, another memory. -/
def Reb (N n0 : Nat) (fr fr1 : Frm) (H H1 : Mem) : Prop :=
  ∀ (g : Gh) (w : World) (tmps : Array Value), n0 ≤ H.length → FR g H.length N fr tmps → MR g H w → ∃ g1, FR g1 H1.length N fr1 tmps ∧ MR g1 H1 w ∧ Ev n0 g w g1 w ∧ n0 ≤ H1.length

theorem Reb.refl {N n0 : Nat} {fr : Frm} {H : Mem} : Reb N n0 fr fr H H := fun g _ _ hl hf hm => ⟨g, hf, hm, .refl _ _ _, hl⟩
theorem Reb.trans {N n0 : Nat} {fr fr1 fr2 : Frm} {H H1 H2 : Mem} (h : Reb N n0 fr fr1 H H1) (h' : Reb N n0 fr1 fr2 H1 H2) : Reb N n0 fr fr2 H H2 := fun g w tmps hl hf hm => by
  obtain ⟨g1, f1, m1, e1, l1⟩ := h g w tmps hl hf hm
  obtain ⟨g2, f2, m2, e2, l2⟩ := h' g1 w tmps l1 f1 m1
  exact ⟨g2, f2, m2, e1.trans e2 (Nat.le_refl _), l2⟩

theorem aw_reb {P : Program} {N n0 : Nat} {c : Code} {fr fr1 : Frm} {H H1 : Mem} {Q : Exit → Frm → Mem → Prop} (hr : Reb N n0 fr fr1 H H1) (h : aw P N n0 c fr1 H1 Q) : aw P N n0 c fr H Q := fun g w a hl hd hf hm => by
  obtain ⟨g1, f1, m1, e1, l1⟩ := hr g w a.tmps hl hf hm
  exact aw.from h hd f1 m1 e1 l1

theorem aw.conseq {P : Program} {N n0 : Nat} {c : Code} {fr : Frm} {H : Mem} {Q Q' : Exit → Frm → Mem → Prop} (hq : ∀ e fr H, Q e fr H → ∃ fr1 H1, Reb N n0 fr fr1 H H1 ∧ Q' e fr1 H1) (h : aw P N n0 c fr H Q) : aw P N n0 c fr H Q' :=
  fun g w a hl hd hf hm => wp_mono (h g w a hl hd hf hm) fun e _ w' ⟨d, fr', H', g', q, f, m, ev, l⟩ => by
    obtain ⟨fr1, H1, hr, q1⟩ := hq e fr' H' q
    obtain ⟨g1, f1, m1, e1, l1⟩ := hr g' w' _ l f m
    exact ⟨d, fr1, H1, g1, q1, f1, m1, ev.trans e1 (Nat.le_refl _), l1⟩

theorem VR_sc {g : Gh} {n : Nat} {v u : Value} (h : VR g n (.sc v) u) : u = v := by cases h; rfl

theorem least {p : Nat → Prop} (h : ∃ k, p k) : ∃ k, p k ∧ ∀ j, p j → k ≤ j := by
  obtain ⟨k, hk⟩ := h
  induction k using Nat.strongRecOn with
  | _ k ih =>
    by_cases hx : ∃ j, j < k ∧ p j
    · obtain ⟨j, hj, hp⟩ := hx
      exact ih j hj hp
    · exact ⟨k, hk, fun j hj => by
        rcases Nat.lt_or_ge j k with hl | hl
        · exact absurd ⟨j, hl, hj⟩ hx
        · exact hl⟩

section rules
variable {P : Program} {N n0 : Nat} {fr : Frm} {H : Mem} {Q : Exit → Frm → Mem → Prop}

theorem CR.here {g : Gh} {w : World} {a : Act} {e : Exit} (hl : n0 ≤ H.length) (hd : a.defers = []) (hf : FR g H.length N fr a.tmps) (hm : MR g H w) (h : Q e fr H) : CR N n0 g w Q e a w :=
  ⟨hd, fr, H, g, h, hf, hm, .refl _ _ _, hl⟩

theorem aw_skip (h : Q .normal fr H) : aw P N n0 .skip fr H Q := fun _ _ _ hl hd hf hm => wp_skip (.here hl hd hf hm h)
theorem aw_ret (h : Q .ret fr H) : aw P N n0 .ret fr H Q := fun _ _ _ hl hd hf hm => wp_ret (.here hl hd hf hm h)
theorem aw_exit {id : Nat} (h : Q (.exit id) fr H) : aw P N n0 (.exit id) fr H Q := fun _ _ _ hl hd hf hm => wp_exit (.here hl hd hf hm h)
def thenQ (K : Frm → Mem → Prop) (Q : Exit → Frm → Mem → Prop) : Exit → Frm → Mem → Prop
  | .normal, fr, H => K fr H
  | e, fr, H => Q e fr H

theorem aw_seq {x y : Code} (h : aw P N n0 x fr H (thenQ (fun fr H => aw P N n0 y fr H Q) Q)) : aw P N n0 (.seq x y) fr H Q := fun g w a hl hd hf hm =>
  wp_seq (wp_mono (h g w a hl hd hf hm) fun e a' w' ⟨d, fr', H', g', q, f, m, ev, l⟩ => by
    cases e with
    | normal => exact aw.from q d f m ev l
    | _ => exact ⟨d, fr', H', g', q, f, m, ev, l⟩)

theorem aw_cond {c : Operand} {x y : Code} {b : Bool} (hc : aev fr c = .sc (.bool b)) (h : aw P N n0 (if b then x else y) fr H Q) : aw P N n0 (.cond c x y) fr H Q := fun g w a hl hd hf hm =>
  wp_cond (t := b) (VR_sc (by have := VR_aev hf c; rw [hc] at this; exact this)) (h g w a hl hd hf hm)

def blockQ (id : Nat) (Q : Exit → Frm → Mem → Prop) : Exit → Frm → Mem → Prop
  | .exit id', fr, H => if id' = id then Q .normal fr H else Q (.exit id') fr H
  | e, fr, H => Q e fr H

theorem aw_block {id : Nat} {c : Code} (h : aw P N n0 c fr H (blockQ id Q)) : aw P N n0 (.block id c) fr H Q := fun g w a hl hd hf hm =>
  wp_block (wp_mono (h g w a hl hd hf hm) fun e a' w' ⟨d, fr', H', g', q, f, m, ev, l⟩ => by
    cases e with
    | exit id' =>
      by_cases hid : id' = id
      · simp only [blockQ, hid, if_true] at q
        simp only [Exit.inBlock, hid, if_true]
        exact ⟨d, fr', H', g', q, f, m, ev, l⟩
      · simp only [blockQ, hid, if_false] at q
        simp only [Exit.inBlock, hid, if_false]
        exact ⟨d, fr', H', g', q, f, m, ev, l⟩
    | _ => exact ⟨d, fr', H', g', q, f, m, ev, l⟩)

open Classical in
/-- A loop: each round goes down. -/
theorem aw_loop {c : Code} (I : Nat → Frm → Mem → Prop) {k : Nat} (h0 : I k fr H)
    (h : ∀ k fr H, I k fr H → aw P N n0 c fr H (thenQ (fun fr' H' => ∃ k', k' < k ∧ I k' fr' H') Q)) : aw P N n0 (.loop c) fr H Q := by
  intro g w a hl hd hf hm
  let J : Nat → Act → World → Prop := fun k a' w' => a'.defers = [] ∧ ∃ fr' H' g', I k fr' H' ∧ FR g' H'.length N fr' a'.tmps ∧ MR g' H' w' ∧ Ev n0 g w g' w' ∧ n0 ≤ H'.length
  let μ : Act → World → Nat := fun a' w' => if hx : ∃ k, J k a' w' then Classical.choose (least hx) else 0
  refine wp_loop (fun a' w' => ∃ k, J k a' w') μ ⟨k, hd, fr, H, g, h0, hf, hm, .refl _ _ _, hl⟩ ?_
  intro a' w' hx
  have hj : J (Classical.choose (least hx)) a' w' := (Classical.choose_spec (least hx)).1
  have hμ : μ a' w' = Classical.choose (least hx) := by simp only [μ]; rw [dif_pos hx]
  obtain ⟨d, fr', H', g', q, f, m, ev, l⟩ := hj
  refine wp_mono (aw.from (h _ _ _ q) d f m ev l) ?_
  rintro e a2 w2 ⟨d2, fr2, H2, g2, q2, f2, m2, ev2, l2⟩
  cases e with
  | normal =>
    obtain ⟨k', hk', q3⟩ := q2
    have hj2 : J k' a2 w2 := ⟨d2, fr2, H2, g2, q3, f2, m2, ev2, l2⟩
    refine ⟨⟨k', hj2⟩, ?_⟩
    have hx2 : ∃ k, J k a2 w2 := ⟨k', hj2⟩
    have : μ a2 w2 = Classical.choose (least hx2) := by simp only [μ]; rw [dif_pos hx2]
    rw [this, hμ]
    exact Nat.lt_of_le_of_lt ((Classical.choose_spec (least hx2)).2 _ hj2) hk'
  | _ => exact ⟨d2, fr2, H2, g2, q2, f2, m2, ev2, l2⟩

/-- The temporaries that operations write lie in the frame. -/
def dstsLt (ops : List Oper) (N : Nat) : Bool := ops.all fun o => match o.dst with | some d => decide (d < N) | none => true

theorem OpsS_sound {ops : Array Oper} {K : Frm → Mem → Prop} {QQ : Exit → Act → World → Prop} {n0 : Nat} {g0 : Gh} {w0 : World}
    (hQ : ∀ (fr : Frm) (H : Mem) (g : Gh) (w : World) (a : Act), a.defers = [] → K fr H → FR g H.length N fr a.tmps → MR g H w → Ev n0 g0 w0 g w → n0 ≤ H.length → QQ .normal a w) :
    ∀ (l : List Oper) (fr : Frm) (H : Mem) (g : Gh) (w : World) (a : Act), dstsLt l N = true → OpsS P ops l fr H K → a.defers = [] → FR g H.length N fr a.tmps → MR g H w →
      Ev n0 g0 w0 g w → n0 ≤ H.length → wpList P ops QQ l a w
  | [], fr, H, g, w, a, _, h, hd, hf, hm, he, hn => hQ fr H g w a hd h hf hm he hn
  | o :: rest, fr, H, g, w, a, hlt, h, hd, hf, hm, he, hn => by
    simp only [dstsLt, List.all_cons, Bool.and_eq_true] at hlt
    have hdst : ∀ x, o.dst = some x → x < N := fun x hx => by have := hlt.1; rw [hx] at this; simpa using this
    simp only [OpsS] at h
    simp only [wpList]
    cases hg : agd ops fr o with
    | none => rw [hg] at h; exact h.elim
    | some b =>
      rw [hg] at h
      have hw := wanted_agd hf hg
      cases b with
      | true =>
        rw [if_pos hw]
        refine .inl (wp_of_Ls (h g w a.eval (fun x _ => VR_aev hf x) hm) ?_)
        rintro v w' ⟨r, H', g', k, hv, hm', he', hn'⟩
        refine OpsS_sound hQ rest _ H' g' w' _ hlt.2 k ?_ (FR.put (FR.mono he'.gle hn' hf) hdst hv) hm' (he.trans he' hn) (Nat.le_trans hn hn')
        cases o.dst <;> exact hd
      | false =>
        rw [if_neg (by rw [hw]; simp)]
        refine OpsS_sound hQ rest _ H g w _ hlt.2 h ?_ (FR.put hf hdst (.sc undef)) hm he hn
        cases o.dst <;> exact hd

theorem aw_region {id : Nat} {l : List Oper} (hlt : dstsLt l N = true) (h : OpsS P l.toArray l fr H fun fr H => Q .normal fr H) : aw P N n0 (.region id l.toArray false) fr H Q :=
  fun g w a hl hd hf hm => wp_region_lit (OpsS_sound (n0 := n0) (g0 := g) (w0 := w) (fun fr' H' g' _ _ d k f m e n => ⟨d, fr', H', g', k, f, m, e, n⟩) l fr H g w a hlt h hd hf hm (.refl _ _ _) hl)

end rules

/-- A function that has a body and is no entry of the model's. -/
def callable (P : Program) (f : FuncId) : Bool := match P.funcs[f]? with | some fn => fn.body.isSome && fn.name != "runtime.NumGoroutine" | none => false

def ACalls (P : Program) (f : FuncId) (args : List AV) (H : Mem) (R : AV → Mem → Prop) : Prop :=
  callable P f = true ∧ ∀ (g : Gh) (w : World) (vals : Array Value), MR g H w → vals.size = args.length → (∀ (i : Nat) c, args[i]? = some c → VR g H.length c (vals.getD i undef)) →
    Calls P f vals w fun e w' => ∃ v, e = .returned v ∧ SR H.length g w R v w'

theorem ACalls.mono {P : Program} {f : FuncId} {args : List AV} {H : Mem} {R R' : AV → Mem → Prop} (hr : ∀ r H', R r H' → R' r H') (h : ACalls P f args H R) : ACalls P f args H R' :=
  ⟨h.1, fun g w vals h1 h2 h3 => (h.2 g w vals h1 h2 h3).mono fun _ _ ⟨v, e, s⟩ => ⟨v, e, s.mono hr⟩⟩

def afr0 (args : List AV) : Frm := fun t => args.getD t (.sc undef)

theorem FR0 {g : Gh} {n N : Nat} {args : List AV} {vals : Array Value} (hs : vals.size = args.length) (hN : args.length ≤ N) (h : ∀ (i : Nat) c, args[i]? = some c → VR g n c (vals.getD i undef)) :
    FR g n N (afr0 args) (vals ++ Array.replicate (N - vals.size) undef) := by
  refine ⟨by simp; omega, fun t => ?_⟩
  unfold afr0
  rw [List.getD_eq_getElem?_getD, Array.getD_eq_getD_getElem?]
  cases ht : args[t]? with
  | none =>
    have hl : args.length ≤ t := by simpa using ht
    simp only [Option.getD_none]
    rw [Array.getElem?_append_right (by omega)]
    by_cases h2 : t - vals.size < N - vals.size
    · rw [Array.getElem?_replicate, if_pos h2]; exact .sc _
    · rw [Array.getElem?_replicate, if_neg h2]; exact .sc _
  | some c =>
    have hl : t < args.length := by
      rcases Nat.lt_or_ge t args.length with hh | hh
      · exact hh
      · rw [List.getElem?_eq_none hh] at ht; cases ht
    have := h t c ht
    rw [Array.getD_eq_getD_getElem?] at this
    rw [Array.getElem?_append_left (by omega)]
    simpa using this

/-- The results as the frame tells them: temporaries, or variables in memory. -/
def resS (P : Program) (fn : Func) (fr : Frm) (H : Mem) (R : AV → Mem → Prop) : Prop :=
  ∀ (g : Gh) (w : World) (N : Nat) (tmps : Array Value), FR g H.length N fr tmps → MR g H w → ∃ v, (results fn tmps).run P w = .ok v w ∧ ∃ r, R r H ∧ VR g H.length r v

theorem acalls_of_aw {P : Program} {f : FuncId} {fn : Func} {c : Code} {args : List AV} {H : Mem} {R : AV → Mem → Prop} (hf : P.funcs[f]? = some fn) (hb : fn.body = some c) (hcl : callable P f = true)
    (hN : args.length ≤ fn.ntmps)
    (h : aw P fn.ntmps H.length c (afr0 args) H fun e fr H' => match e with | .normal | .ret => ∃ fr1 H1, Reb fn.ntmps H.length fr fr1 H' H1 ∧ resS P fn fr1 H1 R | _ => False) : ACalls P f args H R := by
  refine ⟨hcl, fun g w vals hm hs hv => calls_of_wp hf hb ?_⟩
  refine wp_mono (h g w _ (Nat.le_refl _) rfl (FR0 hs hN hv) hm) ?_
  rintro e a' w' ⟨d, fr', H', g', q, f', m, ev, l⟩
  have fin : (∃ fr1 H1, Reb fn.ntmps H.length fr' fr1 H' H1 ∧ resS P fn fr1 H1 R) → ∃ v, (results fn a'.tmps).run P w' = .ok v w' ∧ ∃ u, Ending.returned v = .returned u ∧ SR H.length g w R u w' := fun ⟨fr1, H1, hr, q⟩ => by
    obtain ⟨g1, f1, m1, e1, l1⟩ := hr g' w' _ l f' m
    obtain ⟨v, hr, r, hR, hvr⟩ := q g1 w' _ a'.tmps f1 m1
    exact ⟨v, hr, v, rfl, r, H1, g1, hR, hvr, m1, ev.trans e1 (Nat.le_refl _), l1⟩
  cases e with
  | normal => exact ⟨d, fin q⟩
  | ret => exact ⟨d, fin q⟩
  | _ => exact q.elim

end Go.Proofs.Yteclchefihcjkaa.Am
