/- Operations whose value and memory are told exactly, one after another; joins and loops read as partial functions; what is left of memory. -/
import Derived.Test.YteclchefihcjkaaD0
import Derived.Test.YteclchefihcjkaaM16
namespace Go.Proofs.Yteclchefihcjkaa.Am
open Go
set_option linter.unusedVariables false

/-- A value at least so much told, and just this memory. -/
def Det (r : AV) (H1 : Mem) : AV → Mem → Prop := fun r' H' => AVLe r' r ∧ H' = H1

theorem OpS.det {P : Program} {o : Oper} {fr : Frm} {H H1 : Mem} {r : AV} (h : OpS P o fr H (Det r H1)) : OpS P o fr H fun r' H' => r' = r ∧ H' = H1 := fun g w ev h1 h2 =>
  Ls.mono (fun v w' s => s.mono' fun r' H' g' v' ⟨k1, k2⟩ hv => ⟨r, ⟨rfl, k2⟩, k1 _ _ _ hv⟩) (h g w ev h1 h2)

section
variable {P : Program} {ops : Array Oper} {cs : List Nat} {rest : List Oper} {o : Oper} {fr : Frm} {H : Mem} {K : Frm → Mem → Prop}

theorem OpsS_nil (h : K fr H) : OpsS P ops [] fr H K := h
theorem OpsS_det (r : AV) (H1 : Mem) (hg : agd ops fr o = some true) (h : OpS P o fr H (Det r H1)) (h2 : OpsS P ops rest (fr.put o.dst r) H1 K) : OpsS P ops (o :: rest) fr H K := by
  simp only [OpsS, hg]
  exact h.det.mono fun r' H' ⟨e1, e2⟩ => by subst e1 e2; exact h2
theorem OpsS_skip (hg : agd ops fr o = some false) (h : OpsS P ops rest (fr.put o.dst undefA) H K) : OpsS P ops (o :: rest) fr H K := by
  simp only [OpsS, hg]
  exact h
theorem OpsS_test {b : Bool} (hg : agd ops fr o = some true) (h : OpS P o fr H (Det (.sc (.bool b)) H)) (h1 : b = true → OpsS P ops rest (fr.put o.dst (.sc (.bool true))) H K)
    (h2 : b = false → OpsS P ops rest (fr.put o.dst (.sc (.bool false))) H K) : OpsS P ops (o :: rest) fr H K := by
  refine OpsS_det (.sc (.bool b)) H hg h ?_
  cases b
  · exact h2 rfl
  · exact h1 rfl

variable {B : Mem} {J : Mem → Prop}
theorem DRun_det0 (r : AV) (hg : agd ops fr o = some true) (h : ∀ H0 : Mem, OpS P o fr H0 (Det r H0)) (h2 : DRun P J ops cs rest (fr.put o.dst r) B H K) : DRun P J ops (0 :: cs) (o :: rest) fr B H K :=
  ⟨r, H, ⟨fun _ => rfl, fun _ => List.prefix_refl _, .inl rfl, .inl ⟨hg, .inl ⟨rfl, fun H0 _ => (h H0).det⟩⟩⟩, h2⟩
theorem DRun_det1 (r : AV) (hg : agd ops fr o = some true) (h : ∀ H0 : Mem, B <+: H0 → OpS P o fr H0 (Det r H0)) (h2 : DRun P J ops cs rest (fr.put o.dst r) B H K) : DRun P J ops (1 :: cs) (o :: rest) fr B H K :=
  ⟨r, H, ⟨fun _ => rfl, fun _ => List.prefix_refl _, .inl rfl, .inl ⟨hg, .inr (.inl ⟨rfl, fun H0 hB => (h H0 hB).det⟩)⟩⟩, h2⟩
theorem DRun_det2 (r : AV) (H1 : Mem) (hg : agd ops fr o = some true) (h : OpS P o fr H (Det r H1)) (hJ : J H1) (h2 : DRun P J ops cs rest (fr.put o.dst r) H1 H1 K) : DRun P J ops (2 :: cs) (o :: rest) fr B H K :=
  ⟨r, H1, ⟨fun h => by simp at h, fun h => absurd rfl h, .inr hJ, .inl ⟨hg, .inr (.inr ⟨by simp, h.det⟩)⟩⟩, h2⟩
theorem DRun_det3 (r : AV) (H1 : Mem) (hg : agd ops fr o = some true) (h : OpS P o fr H (Det r H1)) (hp : H <+: H1) (hJ : J H1) (h2 : DRun P J ops cs rest (fr.put o.dst r) B H1 K) : DRun P J ops (3 :: cs) (o :: rest) fr B H K :=
  ⟨r, H1, ⟨fun h => by simp at h, fun _ => hp, .inr hJ, .inl ⟨hg, .inr (.inr ⟨by simp, h.det⟩)⟩⟩, h2⟩
theorem DRun_skipN {c : Nat} (hc : c ≠ 2) (hg : agd ops fr o = some false) (h : DRun P J ops cs rest (fr.put o.dst undefA) B H K) : DRun P J ops (c :: cs) (o :: rest) fr B H K :=
  ⟨undefA, H, ⟨fun _ => rfl, fun _ => List.prefix_refl _, .inl rfl, .inr ⟨hg, rfl, rfl⟩⟩, by rw [List.headD_cons, if_neg hc]; exact h⟩
theorem DRun_test0 {b : Bool} (hg : agd ops fr o = some true) (h : ∀ H0 : Mem, OpS P o fr H0 (Det (.sc (.bool b)) H0)) (h1 : b = true → DRun P J ops cs rest (fr.put o.dst (.sc (.bool true))) B H K)
    (h2 : b = false → DRun P J ops cs rest (fr.put o.dst (.sc (.bool false))) B H K) : DRun P J ops (0 :: cs) (o :: rest) fr B H K := by
  refine DRun_det0 (.sc (.bool b)) hg h ?_
  cases b
  · exact h2 rfl
  · exact h1 rfl
end

/-! ## What is told with less -/

theorem AVLe.trans {a b c : AV} (h : AVLe a b) (h' : AVLe b c) : AVLe a c := fun g n v hv => h' g n v (h g n v hv)
theorem AVLe.any (a : AV) : AVLe a .any := fun _ _ _ _ => .any _
theorem AVLe.agg {cs cs' : List AV} (h : ALe cs cs') : AVLe (.ag cs) (.ag cs') := fun g n v hv => by
  obtain ⟨h1, h2⟩ := h.get
  cases hv with
  | ag _ vs hs hx => exact .ag cs' vs (hs.trans h1) fun i c hc => by obtain ⟨c0, e0, l0⟩ := h2 i c hc; exact l0 _ _ _ (hx i c0 e0)
theorem AVLe.tup {cs cs' : List AV} (h : ALe cs cs') : AVLe (.tp cs) (.tp cs') := fun g n v hv => by
  obtain ⟨h1, h2⟩ := h.get
  cases hv with
  | tp _ vs hs hx => exact .tp cs' vs (hs.trans h1) fun i c hc => by obtain ⟨c0, e0, l0⟩ := h2 i c hc; exact l0 _ _ _ (hx i c0 e0)
theorem ALe.refl : ∀ l, ALe l l
  | [] => trivial
  | _ :: r => ⟨.refl _, ALe.refl r⟩
theorem ELe.refl : ∀ l, ELe l l
  | [] => trivial
  | _ :: r => ⟨.refl _, ELe.refl r⟩

/-- A frame of a list, each slot told with less. -/
def FlL (fr : Frm) : List (Nat × AV) → Prop
  | [] => True
  | (d, v) :: r => AVLe (fr d) v ∧ FlL fr r

theorem Reb.fl {N n0 : Nat} {fr : Frm} {H : Mem} {l : List (Nat × AV)} (h : FlL fr l) : Reb N n0 fr (Frm.of l) H H := fun g w tmps hn hf hm => by
  refine ⟨g, ⟨hf.size, fun t => ?_⟩, hm, .refl _ _ _, hn⟩
  induction l with
  | nil => exact .any _
  | cons p r ih =>
    obtain ⟨d, v⟩ := p
    by_cases e : t = d
    · subst e
      simp only [Frm.of, if_true]
      exact h.1 _ _ _ (hf.vr t)
    · simp only [Frm.of, if_neg e]
      exact ih h.2

/-- Told with less, where the memory has more than n entries. -/
def AVLt (n : Nat) (a a' : AV) : Prop := ∀ g m v, n < m → VR g m a v → VR g m a' v
theorem AVLt.of {n : Nat} {a a' : AV} (h : AVLe a a') : AVLt n a a' := fun g m v _ hv => h g m v hv
theorem AVLt.nil (n z : Nat) : AVLt n (.sc (.slice none 0 0)) (.sl z [] (.tk n)) := fun _ _ _ hn h => by cases h; exact .nil z _ fun t e => by cases e; exact hn
theorem AVLt.ex (n z : Nat) (es : List (List PV)) : AVLt n (.sl z es .ex) (.sl z es (.tk n)) := fun _ _ _ hn h => by
  cases h with
  | nil z => exact .nil z _ fun t e => by cases e; exact hn
  | sl z es k a cap f h1 h2 h3 h4 h5 => exact .sl z es _ a cap f h1 h2 h3 h4 ⟨hn, .inl h5⟩
def FtL (n : Nat) (fr : Frm) : List (Nat × AV) → Prop
  | [] => True
  | (d, v) :: r => AVLt n (fr d) v ∧ FtL n fr r

/-- A spare room of nothing. -/
theorem Reb.void {N n0 : Nat} {fr : Frm} {H : Mem} {l : List (Nat × AV)} (h : FtL H.length fr l) : Reb N n0 fr (Frm.of l) H (H ++ [.tok]) := fun g w tmps hl hf hm => by
  obtain ⟨m1, m2⟩ := hm.push_void
  refine ⟨_, ⟨hf.size, ?_⟩, m1, ⟨⟨m2.gle.ro, fun i hi => m2.gle.mu i (by omega)⟩, m2.un, m2.size, m2.os, m2.tape, m2.output⟩, by simp; omega⟩
  intro t
  have hfr := (hf.mono m2.gle (by simp : H.length ≤ (H ++ [Ent.tok]).length)).vr t
  generalize tmps.getD t undef = u at hfr
  induction l with
  | nil => exact .any _
  | cons p r ih =>
    obtain ⟨d, v⟩ := p
    by_cases e : t = d
    · subst e
      simp only [Frm.of, if_true]
      exact h.1 _ _ _ (by simp) hfr
    · simp only [Frm.of, if_neg e]
      exact ih h.2

/-- Cells of memory, told with less. -/
theorem MR.le {g : Gh} {H : Mem} {w : World} {id : Nat} {cs cs' : List AV} (hm : MR g H w) (hid : H[id]? = some (.cells cs)) (hl : ALe cs cs') : MR g (H.set id (.cells cs')) w := by
  obtain ⟨q1, q2⟩ := hl.get
  have hlen : (H.set id (Ent.cells cs')).length = H.length := by simp
  refine ⟨hm.ro, fun id' e he => ?_, fun b i hb => by rw [hlen]; exact hm.ow b i hb⟩
  rw [hlen]
  rcases get_set he with ⟨hne, he⟩ | ⟨rfl, rfl, _⟩
  · exact hm.ent id' e he
  · rcases hm.ent _ _ hid with ⟨e1, e2⟩ | ⟨h1, h2, h3, h4, h5⟩
    · exact .inl ⟨List.eq_nil_of_length_eq_zero (by rw [← q1, e1]; rfl), e2⟩
    refine .inr ⟨h1, h2, by rw [← q1]; exact h3, h4, fun k c hc => ?_⟩
    obtain ⟨c0, e0, l0⟩ := q2 k c hc
    obtain ⟨v, hv, hvr⟩ := h5 k c0 e0
    exact ⟨v, hv, l0 _ _ _ hvr⟩

def ALt (n : Nat) : List AV → List AV → Prop
  | [], [] => True
  | a :: r, a' :: r' => AVLt n a a' ∧ ALt n r r'
  | _, _ => False
theorem ALt.get {n : Nat} : ∀ {l l' : List AV}, ALt n l l' → l'.length = l.length ∧ ∀ (i : Nat) c', l'[i]? = some c' → ∃ c, l[i]? = some c ∧ AVLt n c c'
  | [], [], _ => ⟨rfl, fun i c h => by simp at h⟩
  | a :: r, a' :: r', h => by
    obtain ⟨h1, h2⟩ := ALt.get h.2
    refine ⟨by simp [h1], fun i c hc => ?_⟩
    cases i with
    | zero => simp at hc; subst hc; exact ⟨a, rfl, h.1⟩
    | succ i => simp only [List.getElem?_cons_succ] at hc ⊢; exact h2 i c hc
  | [], _ :: _, h => h.elim
  | _ :: _, [], h => h.elim
theorem MR.lt {g : Gh} {H : Mem} {w : World} {id n : Nat} {cs cs' : List AV} (hm : MR g H w) (hid : H[id]? = some (.cells cs)) (hn : n < H.length) (hl : ALt n cs cs') : MR g (H.set id (.cells cs')) w := by
  obtain ⟨q1, q2⟩ := hl.get
  have hlen : (H.set id (Ent.cells cs')).length = H.length := by simp
  refine ⟨hm.ro, fun id' e he => ?_, fun b i hb => by rw [hlen]; exact hm.ow b i hb⟩
  rw [hlen]
  rcases get_set he with ⟨hne, he⟩ | ⟨rfl, rfl, _⟩
  · exact hm.ent id' e he
  · rcases hm.ent _ _ hid with ⟨e1, e2⟩ | ⟨h1, h2, h3, h4, h5⟩
    · exact .inl ⟨List.eq_nil_of_length_eq_zero (by rw [q1, e1]; rfl), e2⟩
    refine .inr ⟨h1, h2, by rw [q1]; exact h3, h4, fun k c hc => ?_⟩
    obtain ⟨c0, e0, l0⟩ := q2 k c hc
    obtain ⟨v, hv, hvr⟩ := h5 k c0 e0
    exact ⟨v, hv, l0 _ _ _ hn hvr⟩
/-- Room of nothing behind a row that stands in cells. -/
theorem Reb.voidm {N n0 : Nat} {fr : Frm} {H : Mem} {id : Nat} {cs cs' : List AV} (hid : H[id]? = some (.cells cs)) (hl : ALt H.length cs cs') : Reb N n0 fr fr H (H.set id (.cells cs') ++ [.tok]) := fun g w tmps hn hf hm => by
  obtain ⟨m1, m2⟩ := hm.push_void
  have hlt := lt_of_get hid
  have m3 := m1.lt (id := id) (by rw [List.getElem?_append_left hlt]; exact hid) (by simp) hl
  rw [List.set_append_left _ _ hlt] at m3
  exact ⟨_, by simpa using (hf.mono m2.gle (by simp : H.length ≤ (H ++ [Ent.tok]).length)), m3, ⟨⟨m2.gle.ro, fun i hi => m2.gle.mu i (by omega)⟩, m2.un, m2.size, m2.os, m2.tape, m2.output⟩, by simp; omega⟩

theorem Reb.mem {N n0 : Nat} {fr : Frm} {H : Mem} {id : Nat} {cs cs' : List AV} (hid : H[id]? = some (.cells cs)) (hl : ALe cs cs') : Reb N n0 fr fr H (H.set id (.cells cs')) := fun g w tmps hn hf hm =>
  ⟨g, by rw [List.length_set]; exact hf, hm.le hid hl, .refl _ _ _, by rw [List.length_set]; exact hn⟩

/-! ## Joins and loops -/

section
variable {P : Program} {N n0 : Nat} {fr : Frm} {H : Mem} {Q : Exit → Frm → Mem → Prop}

theorem aw_loopD {S T G : Type} {body : Code} {b : S → Option (Ctl T S)} {n : Nat} {s0 : S} {t : T} (hl : loopN b n s0 = some t) (F : S → G → Frm) (I : S → G → Mem → Prop) (g0 : G) {H1 : Mem} (hI : I s0 g0 H1)
    (hR : Reb N n0 fr (F s0 g0) H H1)
    (step : ∀ s g M c, I s g M → b s = some c → (∀ t', c = .ret t' → t' = t) → aw P N n0 body (F s g) M (thenQ (fun fr' M' => ∃ s' g' M'', c = .go s' ∧ I s' g' M'' ∧ Reb N n0 fr' (F s' g') M' M'') Q)) :
    aw P N n0 (.loop body) fr H Q := by
  refine aw_reb hR ?_
  refine aw_loop (fun k fr' M' => ∃ s g, loopN b k s = some t ∧ fr' = F s g ∧ I s g M') (k := n) ⟨s0, g0, hl, rfl, hI⟩ ?_
  rintro k fr' M' ⟨s, g, hk, rfl, hi⟩
  cases k with
  | zero => cases hk
  | succ k =>
    simp only [loopN] at hk
    cases hb : b s with
    | none => rw [hb] at hk; cases hk
    | some c =>
      refine aw.conseq (fun e fr2 M2 q => ?_) (step s g M' c hi hb fun t' e => by rw [hb, e] at hk; simpa using hk)
      cases e with
      | normal =>
        obtain ⟨s', g', M'', rfl, i2, r2⟩ := q
        rw [hb] at hk
        exact ⟨_, _, r2, k, Nat.lt_succ_self k, s', g', hk, rfl, i2⟩
      | _ => exact ⟨_, _, .refl, q⟩

theorem aw_joinD {S E G : Type} {x y : Code} (c : Ctl E S) (F : S → G → Frm) (I : S → G → Mem → Prop)
    (h : aw P N n0 x fr H (thenQ (fun fr' M' => ∃ s g M'', c = .go s ∧ I s g M'' ∧ Reb N n0 fr' (F s g) M' M'') Q)) (h2 : ∀ s g M, c = .go s → I s g M → aw P N n0 y (F s g) M Q) : aw P N n0 (.seq x y) fr H Q :=
  aw_seq (aw.conseq (fun e fr' H' q => by
    cases e with
    | normal =>
      obtain ⟨s, g, M'', e1, i1, r1⟩ := q
      exact ⟨_, _, r1, h2 s g M'' e1 i1⟩
    | _ => exact ⟨_, _, .refl, q⟩) h)

theorem aw_joinS {S G : Type} {x y : Code} (s : S) (F : S → G → Frm) (I : S → G → Mem → Prop)
    (h : aw P N n0 x fr H (thenQ (fun fr' M' => ∃ g M'', I s g M'' ∧ Reb N n0 fr' (F s g) M' M'') Q)) (h2 : ∀ g M, I s g M → aw P N n0 y (F s g) M Q) : aw P N n0 (.seq x y) fr H Q :=
  aw_seq (aw.conseq (fun e fr' H' q => by
    cases e with
    | normal =>
      obtain ⟨g, M'', i1, r1⟩ := q
      exact ⟨_, _, r1, h2 g M'' i1⟩
    | _ => exact ⟨_, _, .refl, q⟩) h)
end

section
variable {P : Program} {N n0 : Nat} {fr : Frm} {H : Mem} {Q : Exit → Frm → Mem → Prop}
theorem aw_tailD {S E G : Type} {x : Code} (c : Ctl E S) (F : S → G → Frm) (I : S → G → Mem → Prop)
    (h : aw P N n0 x fr H (thenQ (fun fr' M' => ∃ s g M'', c = .go s ∧ I s g M'' ∧ Reb N n0 fr' (F s g) M' M'') Q)) (h2 : ∀ s g M, c = .go s → I s g M → Q .normal (F s g) M) : aw P N n0 x fr H Q :=
  aw.conseq (fun e fr' H' q => by
    cases e with
    | normal =>
      obtain ⟨s, g, M'', e1, i1, r1⟩ := q
      exact ⟨_, _, r1, h2 s g M'' e1 i1⟩
    | _ => exact ⟨_, _, .refl, q⟩) h
theorem aw_tailS {S G : Type} {x : Code} (s : S) (F : S → G → Frm) (I : S → G → Mem → Prop)
    (h : aw P N n0 x fr H (thenQ (fun fr' M' => ∃ g M'', I s g M'' ∧ Reb N n0 fr' (F s g) M' M'') Q)) (h2 : ∀ g M, I s g M → Q .normal (F s g) M) : aw P N n0 x fr H Q :=
  aw.conseq (fun e fr' H' q => by
    cases e with
    | normal =>
      obtain ⟨g, M'', i1, r1⟩ := q
      exact ⟨_, _, r1, h2 g M'' i1⟩
    | _ => exact ⟨_, _, .refl, q⟩) h
end

/-! ## What is known of memory -/

section
variable {A M : Mem} {i j : Nat} {x y : Ent}
theorem get_app {tl : Mem} (h : M[i]? = some x) : (M ++ tl)[i]? = some x := by rw [List.getElem?_append_left (lt_of_get h)]; exact h
theorem get_new : (M ++ [x])[M.length]? = some x := by simp
theorem get_new2 {y : Ent} : (M.set i y ++ [x])[M.length]? = some x := by
  have q := get_new (M := M.set i y) (x := x)
  rw [List.length_set] at q; exact q
theorem get_self (h : M[i]? = some y) : (M.set i x)[i]? = some x := by rw [List.getElem?_set_self (lt_of_get h)]
theorem get_ne (hne : i ≠ j) (h : M[i]? = some x) : (M.set j y)[i]? = some x := by rw [List.getElem?_set_ne (Ne.symm hne)]; exact h
theorem pre_app {tl : Mem} (h : A <+: M) : A <+: M ++ tl := h.trans (List.prefix_append _ _)
theorem pre_get (h : A <+: M) (hi : A[i]? = some x) : M[i]? = some x := by
  obtain ⟨tl, rfl⟩ := h
  exact get_app hi
theorem pre_hi (h : A <+: M) (hi : A.length ≤ i) : A <+: M.set i x := by
  obtain ⟨tl, rfl⟩ := h
  rw [List.set_append_right _ _ hi]
  exact List.prefix_append _ _
theorem pre_lo (h : A <+: M) (hi : i < A.length) : A.set i x <+: M.set i x := by
  obtain ⟨tl, rfl⟩ := h
  rw [List.set_append_left _ _ hi]
  exact List.prefix_append _ _
theorem mset_same (h : M[i]? = some x) : M.set i x = M := by
  apply List.ext_getElem?
  intro k
  by_cases e : i = k
  · subst e; rw [get_self h, h]
  · rw [List.getElem?_set_ne e]
theorem pre_set (h : M[i]? = some x) : M.set i x <+: M := by rw [mset_same h]; exact List.prefix_refl _
theorem tok_ne {cs : List AV} (h : M[i]? = some (.cells cs)) (h2 : M[j]? = some .tok) : i ≠ j := by
  rintro rfl
  rw [h] at h2; cases h2
theorem pre_len (h : A <+: M) : A.length ≤ M.length := h.length_le
end

/-- No entry is spoken of. -/
def AV.clo1 : AV → Bool
  | .any | .sc _ | .sl _ _ .no | .sl _ _ .ex | .ep _ => true
  | _ => false
def AV.clo2 : AV → Bool
  | .ag cs => cs.all AV.clo1
  | a => a.clo1
def AV.clo : AV → Bool
  | .tp cs => cs.all AV.clo2
  | a => a.clo2
theorem AV.clo1_bd {n : Nat} {a : AV} (h : a.clo1 = true) : Bd n a := by
  unfold AV.clo1 at h
  split at h
  · exact .any
  · exact .sc _
  · exact .sl _ _ _ fun t e => by cases e
  · exact .sl _ _ _ fun t e => by cases e
  · exact .ep _
  · cases h
theorem AV.clo2_bd {n : Nat} {a : AV} (h : a.clo2 = true) : Bd n a := by
  unfold AV.clo2 at h
  split at h
  · exact .ag _ fun i c hc => clo1_bd (List.all_eq_true.1 h c (List.mem_of_getElem? hc))
  · exact clo1_bd h
theorem AV.clo_bd {n : Nat} {a : AV} (h : a.clo = true) : Bd n a := by
  unfold AV.clo at h
  split at h
  · exact .tp _ fun i c hc => clo2_bd (List.all_eq_true.1 h c (List.mem_of_getElem? hc))
  · exact clo2_bd h

theorem MBd.set {H : Mem} {p : Nat} {cs : List AV} (hH : MBd H) (hc : cs.all AV.clo1 = true) : MBd (H.set p (.cells cs)) := fun id e he => by
  rw [List.length_set]
  rcases get_set he with ⟨_, he⟩ | ⟨rfl, rfl, _⟩
  · exact hH id e he
  · exact fun i c hc' => AV.clo1_bd (List.all_eq_true.1 hc c (List.mem_of_getElem? hc'))

/-- A call, told to its end: what it made is forgotten. -/
theorem ACalls.done {P : Program} {f : FuncId} {args : List AV} {H H1 : Mem} {r0 : AV} (hn : H.length ≤ H1.length) (hB : MBd H → MBd H1) (hb : Bd H1.length r0)
    (h : ACalls P f args H fun r M => AVLe r r0 ∧ H1 <+: M) : ACalls P f args H fun r M => r = r0 ∧ M = H1 := by
  refine ⟨h.1, fun g w vals hm hs hv => (h.2 g w vals hm hs hv).mono ?_⟩
  rintro e w' ⟨v, he, s⟩
  refine ⟨v, he, SR.trim (R := fun r M => r = r0 ∧ H1 <+: M) (s.mono' fun r' H' g' v' ⟨k1, k2⟩ hv' => ⟨r0, ⟨rfl, k2⟩, k1 _ _ _ hv'⟩) ?_⟩
  rintro r H' ⟨rfl, tl, rfl⟩
  exact ⟨H1, tl, rfl, hn, hB fun id e he => (hm.ent id e he).bd, hb, rfl, rfl⟩

theorem ACalls.done0 {P : Program} {f : FuncId} {args : List AV} {H : Mem} {r0 : AV} (hb : r0.clo = true)
    (h : ACalls P f args H fun r M => AVLe r r0 ∧ H <+: M) : ACalls P f args H fun r M => r = r0 ∧ M = H := ACalls.done (Nat.le_refl _) id (AV.clo_bd hb) h

end Go.Proofs.Yteclchefihcjkaa.Am
