/- Part 1 of the proof: values, memory, walks or the plain law. -/
import Derived.Test.YtgdbmgnfaefhoaaQ0
import Derived.SizedLaws
import Derived.Deep.Slices
import Derived.Below
import Derived.Carry
import Derived.Lib.AppendZeros
import Derived.Maps.RangeRun
import Derived.Maps.Range
import Derived.Laws.StructEq
import Derived.Test.YtgdbmgnfaefhoaaProg
import Derived.KernelRfl
namespace Go.Proofs.Ytgdbmgnfaefhoaa.Am
open Go
inductive Rn (τ : Nat → Nat) (m : Nat) : AV → AV → Prop
 | any (a : AV) : Rn τ m a .any
 | sc (v : Value) : Rn τ m (.sc v) (.sc v)
 | nil (z : Nat) (k : Tk) (hk : ∀ t, k = .tk t → t < m) : Rn τ m (.sc (.slice none 0 0)) (.sl z [] k)
 | no (z : Nat) (es : List (List PV)) (k : Tk) : Rn τ m (.sl z es k) (.sl z es .no)
 | ex (z : Nat) (es : List (List PV)) : Rn τ m (.sl z es .ex) (.sl z es .ex)
 | tk (z : Nat) (es : List (List PV)) (t : Nat) (h : t < m) : Rn τ m (.sl z es (.tk (τ t))) (.sl z es (.tk t))
 | ag (cs cs' : List AV) (hl : cs'.length = cs.length) (h : ∀ (i : Nat) c c', cs[i]? = some c → cs'[i]? = some c' → Rn τ m c c') : Rn τ m (.ag cs) (.ag cs')
 | tp (cs cs' : List AV) (hl : cs'.length = cs.length) (h : ∀ (i : Nat) c c', cs[i]? = some c → cs'[i]? = some c' → Rn τ m c c') : Rn τ m (.tp cs) (.tp cs')
 | pt (id off : Nat) (h : id < m) : Rn τ m (.pt (τ id) off) (.pt id off)
 | ep (cs : List PV) : Rn τ m (.ep cs) (.ep cs)
 | hs (id off len mc s : Nat) (h : id < m) : Rn τ m (.hs (τ id) off len mc s) (.hs id off len mc s)
 | mp (id : Nat) (h : id < m) : Rn τ m (.mp (τ id)) (.mp id)
 | fn (f : Fn) (fs fs' cs cs' : List AV) (hl : fs'.length = fs.length) (hl' : cs'.length = cs.length) (h : ∀ (i : Nat) c c', fs[i]? = some c → fs'[i]? = some c' → Rn τ m c c')
   (h' : ∀ (i : Nat) c c', cs[i]? = some c → cs'[i]? = some c' → Rn τ m c c') : Rn τ m (.fn f fs cs) (.fn f fs' cs')
theorem Rn.vr {τ : Nat → Nat} {m : Nat} {g g' : Gh} (hro : g'.ro = g.ro) (hmu : ∀ i, i < m → g'.mu i = g.mu (τ i)) {a a' : AV} (hr : Rn τ m a a') : ∀ {n : Nat} {v : Value}, VR g n a v → VR g' m a' v := by
 have list : ∀ {cs cs' : List AV} {n : Nat} {vs : Array Value}, cs'.length = cs.length → (∀ (i : Nat) c c', cs[i]? = some c → cs'[i]? = some c' → ∀ {n : Nat} {v : Value}, VR g n c v → VR g' m c' v) →
   (∀ (i : Nat) c, cs[i]? = some c → VR g n c (vs.getD i undef)) → ∀ (i : Nat) c, cs'[i]? = some c → VR g' m c (vs.getD i undef) := fun {cs cs'} _ _ hl ih h i c hc => by
  have hlt := lt_of_get hc
  exact ih i _ c (List.getElem?_eq_getElem (by omega)) hc (h i _ (List.getElem?_eq_getElem (by omega)))
 induction hr with
 | any a => exact fun _ => .any _
 | sc v =>
  intro n v h
  cases h; exact .sc _
 | nil z k hk =>
  intro n v h
  cases h; exact .nil z k hk
 | no z es k =>
  intro n v h
  cases h with
  | nil z => exact .nil z .no fun t e => by cases e
  | sl z es k a cap f h1 h2 h3 h4 h5 => exact .sl z es .no a cap f h1 h2 h3 (hro ▸ h4) trivial
 | ex z es =>
  intro n v h
  cases h with
  | nil z => exact .nil z .ex fun t e => by cases e
  | sl z es k a cap f h1 h2 h3 h4 h5 => exact .sl z es .ex a cap f h1 h2 h3 (hro ▸ h4) h5
 | tk z es t ht =>
  intro n v h
  cases h with
  | nil z => exact .nil z _ fun t e => by cases e; exact ht
  | sl z es k a cap f h1 h2 h3 h4 h5 => exact .sl z es _ a cap f h1 h2 h3 (hro ▸ h4) ⟨ht, h5.2.imp id fun e => (hmu t ht).trans e⟩
 | ag cs cs' hl _ ih =>
  intro n v h
  cases h with
  | ag _ vs hs hv => exact .ag cs' vs (hs.trans hl.symm) (list hl ih hv)
 | tp cs cs' hl _ ih =>
  intro n v h
  cases h with
  | tp _ vs hs hv => exact .tp cs' vs (hs.trans hl.symm) (list hl ih hv)
 | pt id off hid =>
  intro n v h
  cases h; rw [← hmu id hid]; exact .pt id off hid
 | ep cs =>
  intro n v h
  cases h with
  | ep cs a f h1 h2 => exact .ep cs a f h1 (hro ▸ h2)
 | hs id off len mc s hid =>
  intro n v h
  cases h with
  | hs _ _ _ _ _ cap h1 h2 h3 h4 => rw [← hmu id hid] at h4 ⊢; exact .hs id off len mc s cap hid h2 h3 h4
  | hn _ _ _ a h1 => exact .hn id off s a hid
 | mp id hid =>
  intro n v h
  cases h; rw [← hmu id hid]; exact .mp id hid
 | fn f fs fs' cs cs' hl hl' _ _ ih ih' =>
  intro n v h
  cases h with
  | fn _ _ _ vf vc h1 h2 h3 h4 => exact .fn f fs' cs' vf vc (h1.trans hl.symm) (h2.trans hl'.symm) (list hl ih h3) (list hl' ih' h4)
theorem Rn.of_bd {τ : Nat → Nat} {n m : Nat} (hτ : ∀ i, i < n → τ i = i) (hnm : n ≤ m) {a : AV} (h : Bd n a) : Rn τ m a a := by
 have list : ∀ {cs : List AV}, (∀ (i : Nat) c, cs[i]? = some c → Rn τ m c c) → ∀ (i : Nat) c c', cs[i]? = some c → cs[i]? = some c' → Rn τ m c c' := fun ih i c c' h h' => by rw [h] at h'; cases h'; exact ih i c h
 induction h with
 | any => exact .any _
 | sc v => exact .sc v
 | sl z es k hk =>
  cases k with
  | no => exact .no z es _
  | ex => exact .ex z es
  | tk t => have := hk t rfl; have h2 := Rn.tk (τ := τ) (m := m) z es t (by omega); rw [hτ t this] at h2; exact h2
 | ag cs _ ih => exact .ag cs cs rfl (list ih)
 | tp cs _ ih => exact .tp cs cs rfl (list ih)
 | pt id off h => have h2 := Rn.pt (τ := τ) (m := m) id off (by omega); rw [hτ id h] at h2; exact h2
 | ep cs => exact .ep cs
 | hs id off len mc s h => have h2 := Rn.hs (τ := τ) (m := m) id off len mc s (by omega); rw [hτ id h] at h2; exact h2
 | mp id h => have h2 := Rn.mp (τ := τ) (m := m) id (by omega); rw [hτ id h] at h2; exact h2
 | fn f fs cs _ _ i1 i2 => exact .fn f fs fs cs cs rfl rfl (list i1) (list i2)
inductive RnE (τ : Nat → Nat) (m : Nat) : Ent → Ent → Prop
 | dead (e : Ent) : RnE τ m e .dead
 | tok : RnE τ m .tok .tok
 | cells (cs cs' : List AV) (hl : cs'.length = cs.length) (h : ∀ (i : Nat) c c', cs[i]? = some c → cs'[i]? = some c' → Rn τ m c c') : RnE τ m (.cells cs) (.cells cs')
 | map (es : List (Value × AV)) (h : ∀ k a, (k, a) ∈ es → Rn τ m a a) : RnE τ m (.map es) (.map es)
 | mpi (es : List (Value × AV)) (ents : Array MapEntry) (clock : Nat) (h : ∀ k a, (k, a) ∈ es → Rn τ m a a) : RnE τ m (.mpi es ents clock) (.mpi es ents clock)
 | itr (mid since : Nat) (seen : Array Nat) (stepped : Nat) (h : mid < m) (ht : τ mid = mid) : RnE τ m (.itr mid since seen stepped) (.itr mid since seen stepped)
 | lit (vs : List Value) : RnE τ m (.lit vs) (.lit vs)
 | tr (cs : List Tr) (h : ∀ (i : Nat) c, cs[i]? = some c → c.All fun a => Rn τ m a a) : RnE τ m (.tr cs) (.tr cs)
theorem MapR.ren {τ : Nat → Nat} {m n : Nat} {g g' : Gh} (hro : g'.ro = g.ro) (hmu : ∀ i, i < m → g'.mu i = g.mu (τ i)) {es : List (Value × AV)} {ents : Array MapEntry} {clock : Nat} (hm : MapR g n es ents clock) (h : ∀ k a, (k, a) ∈ es → Rn τ m a a) : MapR g' m es ents clock :=
 ⟨hm.st, hm.size, hm.keys, fun k a hi => let ⟨x, x1, x2, x3⟩ := hm.get k a hi; ⟨x, x1, x2, (h k a hi).vr hro hmu x3⟩, hm.all⟩
theorem TrR.ren {τ : Nat → Nat} {m n : Nat} {g g' : Gh} {w : World} {ow : Nat → Option (List Nat)} (hro : g'.ro = g.ro) (hmu : ∀ i, i < m → g'.mu i = g.mu (τ i)) {p : List Nat} {t : Tr} {v : Value} (h : TrR g n w ow p t v) :
  (t.All fun a => Rn τ m a a) → TrR g' m w ow p t v := by
 induction h with
 | av p a v h => intro h2; cases h2 with | av _ h2 => exact .av p a v (h2.vr hro hmu h)
 | hs p z len cs b o l cap f ho hb hc hlen hl hr0 hv _ ih => intro h2; cases h2 with | hs _ _ _ h2 => exact .hs p z len cs b o l cap f ho hb hc hlen hl (fun o' => by rw [hro]; exact hr0 o') hv fun k c hk => ih k c hk (h2 k c hk)
 | hn p z a => exact fun _ => .hn p z a
 | sr p z es a len cap hlen h hk => exact fun _ => .sr p z es a len cap hlen ((Rn.no z es .no).vr hro hmu h) (hk.imp id fun ⟨h1, h2, h3⟩ => ⟨h1, h2, fun o v hv => h3 o v (by rw [← hro]; exact hv)⟩)
 | srn p z => exact fun _ => .srn p z
 | pt p cs b o l f ho hb hl hr0 hv _ ih => intro h2; cases h2 with | pt _ h2 => exact .pt p cs b o l f ho hb hl (fun o' => by rw [hro]; exact hr0 o') hv fun k c hk => ih k c hk (h2 k c hk)
 | mp p es b ents clock ho hr0 hb hm =>
  intro h2
  cases h2 with
  | mp _ h2 => exact .mp p es b ents clock ho (fun o => by rw [hro]; exact hr0 o) hb (hm.ren hro hmu h2)
theorem RnE.of_bd {τ : Nat → Nat} {n m : Nat} (hτ : ∀ i, i < n → τ i = i) (hnm : n ≤ m) {e : Ent} (h : e.Bd n) : RnE τ m e e := by
 cases e with
 | dead => exact .dead _
 | tok => exact .tok
 | cells cs => exact .cells cs cs rfl fun i c c' h1 h2 => by rw [h1] at h2; cases h2; exact .of_bd hτ hnm (h i c h1)
 | map es => exact .map es fun k a hi => .of_bd hτ hnm (h k a hi)
 | mpi es ents clock => exact .mpi es ents clock fun k a hi => .of_bd hτ hnm (h k a hi)
 | itr mid since seen stepped => exact .itr mid since seen stepped (Nat.lt_of_lt_of_le h hnm) (hτ mid h)
 | lit vs => exact .lit vs
 | tr cs => exact .tr cs fun i c hc => (h i c hc).mono fun _ ha => .of_bd hτ hnm ha
def Live (H : Mem) (i : Nat) : Prop := ∃ e, H[i]? = some e ∧ e ≠ .dead
theorem Reb.gcl {N n0 : Nat} {fr fr1 : Frm} {H H2 : Mem} (τ : Nat → Nat) (hn : n0 ≤ H2.length) (h0 : ∀ i, i < n0 → τ i = i) (hinj : ∀ i j, Live H2 i → Live H2 j → τ i = τ j → i = j)
  (hent : ∀ (i : Nat) e', H2[i]? = some e' → e' = .dead ∨ ∃ e, H[τ i]? = some e ∧ RnE τ H2.length e e') (hfr : ∀ t, Rn τ H2.length (fr t) (fr1 t)) : Reb N n0 fr fr1 H H2 := by
 intro g w tmps hl hf hm
 classical
 let ow' : Nat → Option Nat := fun b => match g.ow b with | none => none | some id => if hx : ∃ i, Live H2 i ∧ τ i = id then some (Classical.choose hx) else none
 have how : ∀ b i, Live H2 i → g.ow b = some (τ i) → ow' b = some i := fun b i hi hb => by
  have hx : ∃ j, Live H2 j ∧ τ j = τ i := ⟨i, hi, rfl⟩
  simp only [ow', hb]
  rw [dif_pos hx]
  have := Classical.choose_spec hx
  rw [hinj _ _ this.1 hi this.2]
 have hmu : ∀ i, i < H2.length → (fun i => g.mu (τ i)) i = g.mu (τ i) := fun _ _ => rfl
 refine ⟨⟨g.ro, ow', fun i => g.mu (τ i)⟩, ⟨hf.size, fun t => (hfr t).vr (g := g) (g' := ⟨g.ro, ow', fun i => g.mu (τ i)⟩) rfl hmu (hf.vr t)⟩, ⟨hm.ro, fun i e' he' => ?_, fun b i hb => ?_⟩, ⟨⟨fun _ _ _ h => h, fun i hi => by simp only; rw [h0 i hi]⟩, fun b _ ho => ⟨by simp only [ow', ho], rfl⟩, Nat.le_refl _, rfl, rfl, rfl⟩, hn⟩
 ·have hi := lt_of_get he'
  rcases hent i e' he' with rfl | ⟨e, he, hr⟩
  ·trivial
  have hE := hm.ent _ _ he
  cases hr with
  | dead => trivial
  | tok =>
   rcases hE with hE | ⟨h1, h2, h3⟩
   ·exact .inl hE
   ·exact .inr ⟨how _ i ⟨_, he', by simp⟩ h1, h2, h3⟩
  | cells cs cs' hcl h =>
   rcases hE with ⟨e1, e2⟩ | ⟨h1, h2, h3, h4, h5⟩
   ·exact .inl ⟨List.eq_nil_of_length_eq_zero (by rw [hcl, e1]; rfl), e2⟩
   refine .inr ⟨how _ i ⟨_, he', by simp⟩ h1, h2, by rw [hcl]; exact h3, h4, fun k c' hc' => ?_⟩
   have hlt := lt_of_get hc'
   obtain ⟨v, hv, hvr⟩ := h5 k _ (List.getElem?_eq_getElem (show k < cs.length by omega))
   exact ⟨v, hv, (h k _ c' (List.getElem?_eq_getElem (by omega)) hc').vr (g := g) (g' := ⟨g.ro, ow', fun i => g.mu (τ i)⟩) rfl hmu hvr⟩
  | map es h =>
   obtain ⟨h1, h2, ents, clock, h3, h4⟩ := hE
   exact ⟨how _ i ⟨_, he', by simp⟩ h1, h2, ents, clock, h3, h4.ren (g := g) (g' := ⟨g.ro, ow', fun i => g.mu (τ i)⟩) rfl hmu h⟩
  | mpi es ents clock h =>
   obtain ⟨h1, h2, h3, h4⟩ := hE
   exact ⟨how _ i ⟨_, he', by simp⟩ h1, h2, h3, h4.ren (g := g) (g' := ⟨g.ro, ow', fun i => g.mu (τ i)⟩) rfl hmu h⟩
  | itr mid since seen stepped h ht =>
   obtain ⟨h0, h1, h2, h3, h4⟩ := hE
   exact ⟨h, how _ i ⟨_, he', by simp⟩ h1, h2, h3, by simp only [ht]; exact h4⟩
  | lit vs =>
   obtain ⟨h1, h2, h3, h4, h5⟩ := hE
   exact ⟨how _ i ⟨_, he', by simp⟩ h1, h2, h3, h4, h5⟩
  | tr cs h =>
   rcases hE with hE | ⟨ow, h0, h1, h2, h3, h4, h5⟩
   ·exact .inl hE
   refine .inr ⟨ow, fun b p hp => how b i ⟨_, he', by simp⟩ (h0 b p hp), h1, h2, h3, h4, fun k c hc => ?_⟩
   obtain ⟨v, hv, hvr⟩ := h5 k c hc
   exact ⟨v, hv, hvr.ren (g := g) (g' := ⟨g.ro, ow', fun i => g.mu (τ i)⟩) rfl hmu (h k c hc)⟩
 ·simp only [ow'] at hb
  split at hb
  ·cases hb
  ·rename_i id hid
   split at hb
   ·rename_i hx
    cases hb
    obtain ⟨⟨e', he', _⟩, _⟩ := Classical.choose_spec hx
    exact ⟨(hm.ow b id hid).1, lt_of_get he'⟩
   ·cases hb
theorem Reb.gc {N n0 : Nat} {fr fr1 : Frm} {H H2 : Mem} (τ : Nat → Nat) (hn : n0 ≤ H2.length) (h0 : ∀ i, i < n0 → τ i = i) (hinj : ∀ i j, i < H2.length → j < H2.length → τ i = τ j → i = j)
  (hent : ∀ (i : Nat) e', H2[i]? = some e' → ∃ e, H[τ i]? = some e ∧ RnE τ H2.length e e') (hfr : ∀ t, Rn τ H2.length (fr t) (fr1 t)) : Reb N n0 fr fr1 H H2 :=
 .gcl τ hn h0 (fun i j ⟨_, h1, _⟩ ⟨_, h2, _⟩ => hinj i j (lt_of_get h1) (lt_of_get h2)) (fun i e' he => .inr (hent i e' he)) hfr
def MBd (H : Mem) : Prop := ∀ (id : Nat) e, H[id]? = some e → e.Bd H.length
def tau (n : Nat) (ρ : List Nat) (i : Nat) : Nat := if i < n then i else ρ.getD (i - n) i
theorem Reb.keep {N n0 : Nat} {fr fr1 : Frm} {H1 tl kept : Mem} (ρ : List Nat) (hn : n0 ≤ H1.length) (hb : MBd H1) (hlen : ρ.length = kept.length) (hnd : ρ.Nodup) (hρ : ∀ r, r ∈ ρ → H1.length ≤ r)
  (hent : ∀ (j : Nat) r e', ρ[j]? = some r → kept[j]? = some e' → ∃ e, (H1 ++ tl)[r]? = some e ∧ RnE (tau H1.length ρ) (H1 ++ kept).length e e') (hfr : ∀ t, Rn (tau H1.length ρ) (H1 ++ kept).length (fr t) (fr1 t)) :
  Reb N n0 fr fr1 (H1 ++ tl) (H1 ++ kept) := by
 have hlo : ∀ i, i < H1.length → tau H1.length ρ i = i := fun i hi => by simp [tau, hi]
 have hhi : ∀ i, H1.length ≤ i → i < (H1 ++ kept).length → ∃ r, ρ[i - H1.length]? = some r ∧ tau H1.length ρ i = r := fun i hi hl => by
  have hj : i - H1.length < ρ.length := by rw [List.length_append] at hl; omega
  exact ⟨ρ[i - H1.length], List.getElem?_eq_getElem hj, by unfold tau; rw [if_neg (by omega), List.getD_eq_getElem?_getD, List.getElem?_eq_getElem hj]; rfl⟩
 refine Reb.gc (tau H1.length ρ) (by simp; omega) (fun i hi => hlo i (by omega)) (fun i j hi hj e => ?_) (fun i e' he' => ?_) hfr
 ·rcases Nat.lt_or_ge i H1.length with h1 | h1
  ·rw [hlo i h1] at e
   rcases Nat.lt_or_ge j H1.length with h2 | h2
   ·rw [hlo j h2] at e; exact e
   ·obtain ⟨r, hr, hr2⟩ := hhi j h2 hj
    have := hρ r (List.mem_of_getElem? hr); omega
  ·obtain ⟨r, hr, hr2⟩ := hhi i h1 hi
   rcases Nat.lt_or_ge j H1.length with h2 | h2
   ·rw [hlo j h2] at e
    have := hρ r (List.mem_of_getElem? hr); omega
   ·obtain ⟨r', hr', hr2'⟩ := hhi j h2 hj
    rw [hr2, hr2'] at e
    subst e
    have hlt := lt_of_get hr
    have hlt' := lt_of_get hr'
    rw [List.getElem?_eq_getElem hlt] at hr
    rw [List.getElem?_eq_getElem hlt'] at hr'
    cases hr
    have e2 := Option.some.inj hr'
    rcases Nat.lt_trichotomy (i - H1.length) (j - H1.length) with h3 | h3 | h3
    ·exact absurd e2.symm (List.pairwise_iff_getElem.1 hnd _ _ hlt hlt' h3)
    ·omega
    ·exact absurd e2 (List.pairwise_iff_getElem.1 hnd _ _ hlt' hlt h3)
 ·rcases Nat.lt_or_ge i H1.length with h1 | h1
  ·rw [List.getElem?_append_left h1] at he'
   exact ⟨e', by rw [hlo i h1, List.getElem?_append_left h1]; exact he', .of_bd hlo (by simp) (hb i e' he')⟩
  ·have hl := lt_of_get he'
   obtain ⟨r, hr, hr2⟩ := hhi i h1 hl
   rw [List.getElem?_append_right h1] at he'
   rw [hr2]
   exact hent _ r e' hr he'
def Frm.of : List (Nat × AV) → Frm
 | [], _ => .any
 | (d, v) :: r, t => if t = d then v else Frm.of r t
def FLe (fr F : Frm) : Prop := ∀ t, F t = fr t ∨ F t = .any
theorem FLe.of {fr : Frm} : ∀ {l : List (Nat × AV)}, (∀ p ∈ l, fr p.1 = p.2) → FLe fr (Frm.of l)
 | [], _, _ => .inr rfl
 | (d, v) :: r, h, t => by
  by_cases e : t = d
  ·subst e
   exact .inl (by simp only [Frm.of, if_true]; exact (h _ (List.mem_cons_self ..)).symm)
  ·simp only [Frm.of, if_neg e]
   exact FLe.of (fun p hp => h p (List.mem_cons_of_mem _ hp)) t
theorem FLe.refl (fr : Frm) : FLe fr fr := fun _ => .inl rfl
section
variable {P : Program} {N n0 : Nat} {c : Code} {fr : Frm} {H : Mem} {Q : Exit → Frm → Mem → Prop}
theorem Reb.le {F : Frm} (hF : FLe fr F) : Reb N n0 fr F H H := fun g _ _ hl hf hm => ⟨g, hf.weaken hF, hm, .refl _ _ _, hl⟩
def FrL (fr : Frm) : List (Nat × AV) → Prop
 | [] => True
 | (d, v) :: r => fr d = v ∧ FrL fr r
theorem FrL.all {fr : Frm} : ∀ {l : List (Nat × AV)}, FrL fr l → ∀ p ∈ l, fr p.1 = p.2
 | [], _, _, h => by cases h
 | (d, v) :: r, h, p, hp => by
  rcases List.mem_cons.1 hp with rfl | hp
  ·exact h.1
  ·exact FrL.all h.2 p hp
theorem Reb.of {l : List (Nat × AV)} (h : FrL fr l) : Reb N n0 fr (Frm.of l) H H := .le (.of h.all)
theorem Rn.of {τ : Nat → Nat} {m : Nat} : ∀ {l : List (Nat × AV)}, (∀ p ∈ l, Rn τ m (fr p.1) p.2) → ∀ t, Rn τ m (fr t) (Frm.of l t)
 | [], _, _ => .any _
 | (d, v) :: r, h, t => by
  by_cases e : t = d
  ·subst e
   have := h _ (List.mem_cons_self ..)
   simp only [Frm.of, if_true]; exact this
  ·simp only [Frm.of, if_neg e]
   exact Rn.of (fun p hp => h p (List.mem_cons_of_mem _ hp)) t
def RnL (τ : Nat → Nat) (m : Nat) (fr : Frm) : List (Nat × AV) → Prop
 | [] => True
 | (d, v) :: r => Rn τ m (fr d) v ∧ RnL τ m fr r
theorem RnL.all {τ : Nat → Nat} {m : Nat} : ∀ {l : List (Nat × AV)}, RnL τ m fr l → ∀ p ∈ l, Rn τ m (fr p.1) p.2
 | [], _, _, h => by cases h
 | (d, v) :: r, h, p, hp => by
  rcases List.mem_cons.1 hp with rfl | hp
  ·exact h.1
  ·exact RnL.all h.2 p hp
theorem Reb.drop {H1 tl : Mem} {l : List (Nat × AV)} (hn : n0 ≤ H1.length) (hb : MBd H1) (h : RnL (tau H1.length []) H1.length fr l) : Reb N n0 fr (Frm.of l) (H1 ++ tl) H1 := by
 have := Reb.keep (N := N) (n0 := n0) (fr := fr) (fr1 := Frm.of l) (H1 := H1) (tl := tl) (kept := []) [] hn hb rfl .nil (fun r h => by cases h) (fun j r e' h => by simp at h) (by simpa using Rn.of h.all)
 simpa using this
theorem getElem?_tok {H1 tl : Mem} {t : Nat} : (H1 ++ tl)[H1.length + t]? = tl[t]? := by rw [List.getElem?_append_right (by omega)]; simp
theorem Reb.tok {H1 tl : Mem} {t : Nat} {l : List (Nat × AV)} (hn : n0 ≤ H1.length) (hb : MBd H1) (ht : tl[t]? = some .tok) (h : RnL (tau H1.length [H1.length + t]) (H1.length + 1) fr l) :
  Reb N n0 fr (Frm.of l) (H1 ++ tl) (H1 ++ [.tok]) := by
 refine Reb.keep [H1.length + t] hn hb rfl (by simp) (fun r h => by simp at h; omega) (fun j r e' h h' => ?_) (by simpa using Rn.of h.all)
 cases j with
 | zero => simp at h h'; subst h h'; exact ⟨.tok, by rw [getElem?_tok]; exact ht, .tok⟩
 | succ j => simp at h
theorem tau_hi {n : Nat} {r : Nat} {ρ : List Nat} : tau n (r :: ρ) n = r := by simp [tau]
theorem Rn.tok {n r z : Nat} {es : List (List PV)} : Rn (tau n [r]) (n + 1) (.sl z es (.tk r)) (.sl z es (.tk n)) := by
 have := Rn.tk (τ := tau n [r]) (m := n + 1) z es n (by omega)
 rw [tau_hi] at this; exact this
theorem Reb.nil {l : List (Nat × AV)} (h : ∀ p ∈ l, fr p.1 = p.2 ∨ (fr p.1 = .sc (.slice none 0 0) ∧ ∃ z, p.2 = .sl z [] (.tk H.length)) ∨ (fr p.1 = .sc (.slice none 0 0) ∧ ∃ z, p.2 = .sl z [] .no)) : Reb N n0 fr (Frm.of l) H (H ++ [.tok]) := fun g w tmps hl hf hm => by
 obtain ⟨m1, m2⟩ := hm.push_void
 refine ⟨_, ⟨hf.size, ?_⟩, m1, ⟨⟨m2.gle.ro, fun i hi => m2.gle.mu i (by omega)⟩, m2.un, m2.size, m2.os, m2.tape, m2.output⟩, by simp; omega⟩
 intro t
 have hfr := (hf.mono m2.gle (by simp : H.length ≤ (H ++ [Ent.tok]).length)).vr t
 generalize tmps.getD t undef = u at hfr
 induction l with
 | nil => exact .any _
 | cons p r ih =>
  obtain ⟨d, v⟩ := p
  by_cases e : t = d
  ·subst e
   simp only [Frm.of, if_true]
   rcases h _ (List.mem_cons_self ..) with h1 | ⟨h1, z, h2⟩ | ⟨h1, z, h2⟩
   ·simp only at h1; rw [← h1]; exact hfr
   ·simp only at h1 h2
    rw [h1] at hfr; cases hfr; rw [h2]
    exact .nil z _ fun t e => by cases e; simp
   ·simp only at h1 h2
    rw [h1] at hfr; cases hfr; rw [h2]
    exact .nil z _ fun t e => by cases e
  ·simp only [Frm.of, if_neg e]
   exact ih fun p hp => h p (List.mem_cons_of_mem _ hp)
end
section
variable {P : Program} {ops : Array Oper} {cs : List Nat} {rest : List Oper} {o : Oper} {fr : Frm} {H : Mem} {K : Frm → Mem → Prop}
variable {B : Mem} {J : Mem → Prop} {T : Bool}
theorem DRun_nil (h : K fr H) : DRun P J T ops cs [] fr B H K := h
end
theorem acalls_walk {P : Program} {f : FuncId} {fn : Func} {c : Code} {args : List AV} {H : Mem} {R : AV → Mem → Prop} (hf : P.funcs[f]? = some fn) (hb : fn.body = some c) (hcl : callable P f = true)
  (hN : args.length ≤ fn.ntmps)
  (h : MBd H → aw P fn.ntmps H.length c (afr0 args) H fun e fr H' => match e with | .normal | .ret => ∃ fr1 H1, Reb fn.ntmps H.length fr fr1 H' H1 ∧ resS P fn fr1 H1 R | _ => False) : ACalls P f args H R :=
 ⟨hcl, fun g w vals hm hs hv => (acalls_of_aw hf hb hcl hN (h fun id e he => (hm.ent id e he).bd)).2 g w vals hm hs hv⟩
theorem fin_here {P : Program} {fn : Func} {N n0 : Nat} {fr : Frm} {H' : Mem} {R : AV → Mem → Prop} (h : resS P fn fr H' R) : ∃ fr1 H1, Reb N n0 fr fr1 H' H1 ∧ resS P fn fr1 H1 R := ⟨_, _, .refl, h⟩
end Go.Proofs.Ytgdbmgnfaefhoaa.Am
namespace Go.Proofs.Ytgdbmgnfaefhoaa.Am
open Go
section
variable {P : Program} {ops : Array Oper} {cs : List Nat} {rest : List Oper} {o : Oper} {fr : Frm} {H : Mem} {K : Frm → Mem → Prop} {hint : Hints}
end
theorem wrap64 {n : Int} (h0 : -9223372036854775808 ≤ n) (h1 : n ≤ 9223372036854775807) : IntKind.i64.wrap n = n := by
 have e1 : (2 : Int) ^ IntKind.i64.bits = 18446744073709551616 := by decide
 have e2 : (2 : Int) ^ (IntKind.i64.bits - 1) = 9223372036854775808 := by decide
 unfold IntKind.wrap
 simp only [e1, e2, IntKind.signed, Bool.true_and]
 by_cases h : n % 18446744073709551616 ≥ 9223372036854775808
 ·rw [if_pos (decide_eq_true h)]; omega
 ·rw [if_neg (by simpa using h)]; omega
theorem wrapU {k : IntKind} (hk : k.signed = false) {n : Int} (h0 : 0 ≤ n) (h1 : n < 2 ^ k.bits) : k.wrap n = n := by
 unfold IntKind.wrap
 simp only [hk]
 exact Int.emod_eq_of_lt h0 h1
def AVLe (a a' : AV) : Prop := ∀ g n v, VR g n a v → VR g n a' v
theorem AVLe.refl (a : AV) : AVLe a a := fun _ _ _ h => h
theorem AVLe.nil (z : Nat) : AVLe (.sc (.slice none 0 0)) (.sl z [] .no) := fun _ _ _ h => by cases h; exact .nil z .no fun t e => by cases e
theorem AVLe.no (z : Nat) (es : List (List PV)) (k : Tk) : AVLe (.sl z es k) (.sl z es .no) := fun _ _ _ h => h.no_tok
def PLe (p p' : PV) : Prop := ∀ ro v, PR ro p v → PR ro p' v
theorem PLe.refl (p : PV) : PLe p p := fun _ _ h => h
theorem PLe.nil (z : Nat) : PLe (.sc (.slice none 0 0)) (.sl z []) := fun _ _ h => by cases h; exact .nil z
def PsLe : List PV → List PV → Prop
 | [], [] => True
 | p :: r, p' :: r' => PLe p p' ∧ PsLe r r'
 | _, _ => False
theorem PsLe.refl : ∀ l, PsLe l l
 | [] => trivial
 | p :: r => ⟨.refl p, PsLe.refl r⟩
theorem PsLe.get : ∀ {l l' : List PV}, PsLe l l' → l'.length = l.length ∧ ∀ (i : Nat) p', l'[i]? = some p' → ∃ p, l[i]? = some p ∧ PLe p p'
 | [], [], _ => ⟨rfl, fun i c h => by simp at h⟩
 | a :: r, a' :: r', h => by
  obtain ⟨h1, h2⟩ := PsLe.get h.2
  refine ⟨by simp [h1], fun i c hc => ?_⟩
  cases i with
  | zero => simp at hc; subst hc; exact ⟨a, rfl, h.1⟩
  | succ i => simp only [List.getElem?_cons_succ] at hc ⊢; exact h2 i c hc
 | [], _ :: _, h => h.elim
 | _ :: _, [], h => h.elim
theorem PsLe.append : ∀ {a a' b b' : List PV}, PsLe a a' → PsLe b b' → PsLe (a ++ b) (a' ++ b')
 | [], [], _, _, _, h => h
 | _ :: _, _ :: _, _, _, h, h' => ⟨h.1, PsLe.append h.2 h'⟩
 | [], _ :: _, _, _, h, _ => h.elim
 | _ :: _, [], _, _, h, _ => h.elim
def ELe : List (List PV) → List (List PV) → Prop
 | [], [] => True
 | p :: r, p' :: r' => PsLe p p' ∧ ELe r r'
 | _, _ => False
theorem ELe.spec : ∀ {l l' : List (List PV)}, ELe l l' → l'.length = l.length ∧ (∀ z, (∀ e, e ∈ l → e.length = z) → ∀ e, e ∈ l' → e.length = z) ∧ PsLe l.flatten l'.flatten
 | [], [], _ => ⟨rfl, (fun _ _ _ h => nomatch h), trivial⟩
 | a :: r, a' :: r', h => by
  obtain ⟨h1, h2, h3⟩ := ELe.spec h.2
  refine ⟨by simp [h1], fun z hz e he => ?_, PsLe.append h.1 h3⟩
  rcases List.mem_cons.1 he with rfl | he
  ·rw [h.1.get.1]; exact hz _ (List.mem_cons_self ..)
  ·exact h2 z (fun e he => hz e (List.mem_cons_of_mem _ he)) e he
 | [], _ :: _, h => h.elim
 | _ :: _, [], h => h.elim
theorem AVLe.sl {z : Nat} {es es' : List (List PV)} (k : Tk) (h : ELe es es') : AVLe (.sl z es k) (.sl z es' k) := fun g n v hv => by
 obtain ⟨h1, h2, h3⟩ := h.spec
 cases hv with
 | nil z k hk => cases es' with
  | nil => exact .nil z k hk
  | cons a l => cases h1
 | sl z es k a cap f hsp hcap hz hrow hk =>
  rw [← h1] at hcap hk ⊢
  refine .sl z es' k a cap f hsp hcap (h2 z hz) (fun i p' hp => ?_) hk
  obtain ⟨p, q1, q2⟩ := h3.get.2 i p' hp
  exact ⟨(hrow i p q1).1, q2 _ _ (hrow i p q1).2⟩
def ALe : List AV → List AV → Prop
 | [], [] => True
 | a :: r, a' :: r' => AVLe a a' ∧ ALe r r'
 | _, _ => False
theorem ALe.get : ∀ {l l' : List AV}, ALe l l' → l.length = l'.length ∧ ∀ (i : Nat) c', l'[i]? = some c' → ∃ c, l[i]? = some c ∧ AVLe c c'
 | [], [], _ => ⟨rfl, fun i c h => by simp at h⟩
 | a :: r, a' :: r', h => by
  obtain ⟨h1, h2⟩ := ALe.get h.2
  refine ⟨by simp [h1], fun i c hc => ?_⟩
  cases i with
  | zero => simp at hc; subst hc; exact ⟨a, rfl, h.1⟩
  | succ i => simp only [List.getElem?_cons_succ] at hc ⊢; exact h2 i c hc
 | [], _ :: _, h => h.elim
 | _ :: _, [], h => h.elim
theorem ACalls.le {P : Program} {f : FuncId} {args args' : List AV} {H : Mem} {R : AV → Mem → Prop} (h : ALe args args') (hc : ACalls P f args' H R) : ACalls P f args H R :=
 ⟨hc.1, fun g w vals hm hs hv => hc.2 g w vals hm (hs.trans h.get.1) fun i c' hi => by
  obtain ⟨c, h1, h2⟩ := h.get.2 i c' hi
  exact h2 _ _ _ (hv i c h1)⟩
def FzL (fr : Frm) (id : Nat) (n : Nat) (pcs : List PV) : List (Nat × AV) → Prop
 | [] => True
 | (d, v) :: r => (fr d = v ∨ ∃ off len mc s, fr d = .hs id off len mc s ∧ off + len * s ≤ n ∧ v = .sl s (chunk s len ((pcs.drop off).take (len * s))) .no) ∧ FzL fr id n pcs r
theorem Reb.freeze {N n0 : Nat} {fr : Frm} {H : Mem} {id : Nat} {cs : List AV} {pcs : List PV} {l : List (Nat × AV)} (hid : H[id]? = some (.cells cs)) (hp : cs.mapM AV.pv = some pcs) (hl : FzL fr id cs.length pcs l) :
  Reb N n0 fr (Frm.of l) H (H.set id .dead) := fun g w tmps hn hf hm => by
 obtain ⟨hm1, hg1⟩ := hm.freeze hid
 refine ⟨_, ⟨hf.size, ?_⟩, hm1, ⟨⟨hg1.ro, fun i hi => hg1.mu i (by omega)⟩, fun b _ ho => ⟨ho, rfl⟩, Nat.le_refl _, rfl, rfl, rfl⟩, by simpa using hn⟩
 intro t
 have hlen : (H.set id Ent.dead).length = H.length := by simp
 rw [hlen]
 have hv := hf.vr t
 generalize tmps.getD t undef = u at hv
 induction l with
 | nil => exact .any _
 | cons p r ih =>
  obtain ⟨d, v⟩ := p
  obtain ⟨h1, h2⟩ := hl
  by_cases e : t = d
  ·subst e
   simp only [Frm.of, if_true]
   rcases h1 with h1 | ⟨off, len, mc, s, h1, h3, rfl⟩
   ·rw [← h1]; exact hv.mono hg1 (Nat.le_refl _)
   ·rw [h1] at hv
    cases hv with
    | hs _ _ _ _ _ cap hidl hll hmc hcap => exact freeze_row hm hid hp h3 (Nat.le_trans hll hmc)
    | hn _ _ _ a hidl =>
     cases a with
     | none => exact .nil s .no fun t e => by cases e
     | some a => exact VR.sl s [] .no a 0 (fun _ => undef) (.inl rfl) (Nat.le_refl _) (fun e he => by cases he) (fun k p hk => by simp at hk) trivial
  ·simp only [Frm.of, if_neg e]
   exact ih h2
end Go.Proofs.Ytgdbmgnfaefhoaa.Am
namespace Go.Proofs.Ytgdbmgnfaefhoaa.Am
open Go
inductive Ctl (E S : Type) where
 | ret (e : E)
 | go (s : S)
def loopN {S T : Type} (b : S → Option (Ctl T S)) : Nat → S → Option T
 | 0, _ => none
 | n + 1, s => match b s with
  | none => none
  | some (.ret t) => some t
  | some (.go s') => loopN b n s'
def fuel : Nat := 4611686018427387904
def kont {E S : Type} (c : Option (Ctl E S)) (f : S → Option E) : Option E :=
 match c with
 | none => none
 | some (.ret e) => some e
 | some (.go s) => f s
def early {E S : Type} (x : Option E) : Option (Ctl E S) := x.map .ret
def idx {α : Type} (l : List α) (i : Int) : Option α := if 0 ≤ i then l[i.toNat]? else none
def slc {α : Type} (l : List α) (lo hi : Int) : Option (List α) :=
 if 0 ≤ lo ∧ lo ≤ hi ∧ hi ≤ l.length then some ((l.take hi.toNat).drop lo.toNat) else none
def app {α : Type} (b : Nat) (x y : List α) : Option (List α) :=
 if (x.length + y.length) * b ≤ 140737488355328 ∧ x.length + y.length ≤ 9223372036854775807 then some (x ++ y) else none
def mks {α : Type} (b : Nat) (z : α) (n : Int) : Option (List α) := if 0 ≤ n ∧ b * n ≤ 140737488355328 ∧ n ≤ 9223372036854775807 then some (List.replicate n.toNat z) else none
def chkl {α : Type} (n : Nat) (l : List α) : Option Unit := if l.length = n then some () else none
def updL {α : Type} (l : List α) (i : Int) (x : α) : Option (List α) := if 0 ≤ i ∧ i < l.length then some (l.set i.toNat x) else none
def quoI (k : IntKind) (a b : Int) : Option Int := if b = 0 then none else some (k.wrap (a.tdiv b))
def remI (a b : Int) : Option Int := if b = 0 then none else some (a.tmod b)
def cnt (k : IntKind) (b : Int) : Option Nat := if 0 ≤ b then some (min b.toNat k.bits) else none
def shlI (k : IntKind) (a : Int) (n : Nat) : Int := k.wrap (a * 2 ^ n)
def shrI (a : Int) (n : Nat) : Int := a / 2 ^ n
def maxI (a b : Int) : Int := if b > a then b else a
def minI (a b : Int) : Int := if b < a then b else a
def u8 (n : Int) : UInt8 := UInt8.ofNat n.toNat
def strOf (l : List Int) : List UInt8 := l.map u8
section
variable {α β E S T : Type}
theorem bind_some {o : Option α} {f : α → Option β} {b : β} (h : o.bind f = some b) : ∃ a, o = some a ∧ f a = some b := by
 cases o with
 | none => cases h
 | some a => exact ⟨a, rfl, h⟩
theorem kont_some {c : Option (Ctl E S)} {f : S → Option E} {e : E} (h : kont c f = some e) : ∃ x, c = some x ∧ kont (some x) f = some e := by
 cases c with
 | none => cases h
 | some x => exact ⟨x, rfl, h⟩
theorem kont_go {s : S} {f : S → Option E} {e : E} (h : kont (some (.go s)) f = some e) : f s = some e := h
theorem early_some {x : Option E} {c : Ctl E S} {f : S → Option E} {e : E} (h : early x = some c) (hk : kont (some c) f = some e) : x = some e := by
 cases x with
 | none => cases h
 | some y =>
  simp only [early, Option.map_some, Option.some.injEq] at h
  subst h
  exact hk
theorem early_ret {x : Option T} {c : Ctl T S} {t : T} (h : early x = some c) (ht : ∀ t', c = .ret t' → t' = t) : x = some t := by
 cases x with
 | none => cases h
 | some y =>
  simp only [early, Option.map_some, Option.some.injEq] at h
  subst h
  rw [ht y rfl]
theorem ite_t {b : Bool} {x y z : Option α} (hb : b = true) (h : (if b = true then x else y) = z) : x = z := by rw [if_pos hb] at h; exact h
theorem ite_f {b : Bool} {x y z : Option α} (hb : b = false) (h : (if b = true then x else y) = z) : y = z := by rw [if_neg (by rw [hb]; decide)] at h; exact h
theorem idx_some {l : List α} {i : Int} {a : α} (h : idx l i = some a) : 0 ≤ i ∧ l[i.toNat]? = some a := by
 unfold idx at h
 split at h
 ·exact ⟨by assumption, h⟩
 ·cases h
theorem idx_lt {l : List α} {i : Int} {a : α} (h : idx l i = some a) : 0 ≤ i ∧ i < l.length := by
 obtain ⟨h0, h1⟩ := idx_some h
 have := (List.getElem?_eq_some_iff.1 h1).1
 omega
theorem slc_some {l m : List α} {lo hi : Int} (h : slc l lo hi = some m) : 0 ≤ lo ∧ lo ≤ hi ∧ hi ≤ l.length ∧ m = (l.take hi.toNat).drop lo.toNat := by
 unfold slc at h
 split at h
 ·rename_i hc; cases h; exact ⟨hc.1, hc.2.1, hc.2.2, rfl⟩
 ·cases h
theorem app_some {b : Nat} {x y z : List α} (h : app b x y = some z) : (x.length + y.length) * b ≤ 140737488355328 ∧ x.length + y.length ≤ 9223372036854775807 ∧ z = x ++ y := by
 unfold app at h
 split at h
 ·rename_i hc; cases h; exact ⟨hc.1, hc.2, rfl⟩
 ·cases h
theorem mks_some {b : Nat} {x : α} {n : Int} {z : List α} (h : mks b x n = some z) : 0 ≤ n ∧ b * n ≤ 140737488355328 ∧ n ≤ 9223372036854775807 ∧ z = List.replicate n.toNat x := by
 unfold mks at h
 split at h
 ·rename_i hc; cases h; exact ⟨hc.1, hc.2.1, hc.2.2, rfl⟩
 ·cases h
theorem chkl_some {n : Nat} {l : List α} {u : Unit} (h : chkl n l = some u) : l.length = n := by
 unfold chkl at h
 split at h
 ·assumption
 ·cases h
theorem updL_some {l m : List α} {i : Int} {x : α} (h : updL l i x = some m) : 0 ≤ i ∧ i < l.length ∧ m = l.set i.toNat x := by
 unfold updL at h
 split at h
 ·rename_i hc; cases h; exact ⟨hc.1, hc.2, rfl⟩
 ·cases h
theorem updL_len {l m : List α} {i : Int} {x : α} (h : updL l i x = some m) : m.length = l.length := by rw [(updL_some h).2.2, List.length_set]
theorem quoI_some {k : IntKind} {a b n : Int} (h : quoI k a b = some n) : b ≠ 0 ∧ n = k.wrap (a.tdiv b) := by
 unfold quoI at h
 split at h
 ·cases h
 ·rename_i hc; cases h; exact ⟨hc, rfl⟩
theorem remI_some {a b n : Int} (h : remI a b = some n) : b ≠ 0 ∧ n = a.tmod b := by
 unfold remI at h
 split at h
 ·cases h
 ·rename_i hc; cases h; exact ⟨hc, rfl⟩
theorem cnt_some {k : IntKind} {b : Int} {n : Nat} (h : cnt k b = some n) : 0 ≤ b ∧ n = min b.toNat k.bits := by
 unfold cnt at h
 split at h
 ·rename_i hc; cases h; exact ⟨hc, rfl⟩
 ·cases h
end
def Ik (k : IntKind) (n : Int) : Prop := k.min ≤ n ∧ n ≤ k.max
theorem Ik.u8 {n : Int} (h : Ik .u8 n) : 0 ≤ n ∧ n < 256 := by
 obtain ⟨h1, h2⟩ := h
 have h1 : 0 ≤ n := h1
 have h2 : n ≤ 255 := h2
 omega
theorem Ik.u64 {n : Int} (h : Ik .u64 n) : 0 ≤ n ∧ n < 18446744073709551616 := by
 obtain ⟨h1, h2⟩ := h
 have h1 : 0 ≤ n := h1
 have h2 : n ≤ 18446744073709551615 := h2
 omega
theorem Ik.i64 {n : Int} (h : Ik .i64 n) : -9223372036854775808 ≤ n ∧ n ≤ 9223372036854775807 := h
def c_u8 (n : Int) : List PV := [.sc (.int .u8 n)]
def c_u64 (n : Int) : List PV := [.sc (.int .u64 n)]
def c_i64 (n : Int) : List PV := [.sc (.int .i64 n)]
def c_L {α : Type} (z : Nat) (c : α → List PV) (l : List α) : List PV := [.sl z (l.map c)]
end Go.Proofs.Ytgdbmgnfaefhoaa.Am
namespace Go.Proofs.Ytgdbmgnfaefhoaa.Am
open Go Go.RowKit Go.Deep
def g0 (W : World) : Gh := ⟨fun b o => W.cell? ⟨b, o, none⟩, fun _ => none, fun _ => ⟨0, 1, 0⟩⟩
theorem MR0 (W : World) : MR (g0 W) [] W := ⟨fun _ _ _ h => h, fun id e h => by simp at h, fun b id h => by cases h⟩
theorem ACalls.below {P : Program} {f : FuncId} {args : List AV} (h : ACalls P f args [] fun r _ => r = .sc (.bool true)) {W : World} {vals : Array Value} (hs : vals.size = args.length)
  (hv : ∀ (i : Nat) c, args[i]? = some c → VR (g0 W) 0 c (vals.getD i undef)) : Calls P f vals W fun e W' => e = .returned (.bool true) ∧ Below W.heap.size W W' :=
 (h.2 (g0 W) W vals (MR0 W) hs hv).mono fun _ _ ⟨v, he, r, H', g', hr, hvr, _, ev, _⟩ => by
  subst hr
  cases hvr
  exact ⟨he, ev.os, ev.tape, ev.output, ev.size, fun k hk => (ev.un k hk rfl).2⟩
def Cd (P : Program) (t : TypeId) (z : Nat) (R : List PV → Prop) : Prop :=
 ∀ {T : Type} (enc : TypeId × Value → T) (W : World) (fuel : Nat) (cs : List Value) (x : DataW T × List MemPlace), DataW.trod enc P W 0 (fun _ => true) true fuel t cs = some x →
  (x.1.weights P t).all (· ≤ reachBytes) = true → cs.length = z ∧ ∃ ps, R ps ∧ ps.length = z ∧ ∀ (k : Nat) p, ps[k]? = some p → ∃ v, cs[k]? = some v ∧ PR (g0 W).ro p v
variable {P : Program}
theorem Cd.mono {t : TypeId} {z : Nat} {R R' : List PV → Prop} (hR : ∀ ps, R ps → R' ps) (h : Cd P t z R) : Cd P t z R' := fun enc W fuel cs x hx hw => by
 obtain ⟨h1, ps, h2, h3, h4⟩ := h enc W fuel cs x hx hw
 exact ⟨h1, ps, hR _ h2, h3, h4⟩
theorem Cd_int {t : TypeId} {k : IntKind} (ht : P.underlying t = some (.int k)) : Cd P t 1 fun ps => ∃ n, ps = [.sc (.int k n)] ∧ k.min ≤ n ∧ n ≤ k.max := fun enc W fuel cs x hx _ => by
 obtain ⟨m, rfl, _, hw⟩ := DataW.trod_int ht hx
 simp only [Lit.wf, Bool.and_eq_true, decide_eq_true_eq] at hw
 refine ⟨rfl, _, ⟨m, rfl, hw.1, hw.2⟩, rfl, fun k p hk => ?_⟩
 cases k with
 | zero => simp at hk; subst hk; exact ⟨_, rfl, .sc _ rfl⟩
 | succ k => simp at hk
theorem uniform_get {α : Type} {z : Nat} : ∀ {es : List (List α)}, (∀ e, e ∈ es → e.length = z) → ∀ {k : Nat} {p : α}, es.flatten[k]? = some p → ∃ (i j : Nat) (e : List α), es[i]? = some e ∧ e[j]? = some p ∧ k = i * z + j
 | [], _, k, p, h => by simp at h
 | e :: es, hz, k, p, h => by
  rw [List.flatten_cons] at h
  have he := hz e (List.mem_cons_self ..)
  rcases Nat.lt_or_ge k e.length with hk | hk
  ·rw [List.getElem?_append_left hk] at h
   exact ⟨0, k, e, rfl, h, by omega⟩
  ·rw [List.getElem?_append_right hk] at h
   obtain ⟨i, j, e', h1, h2, h3⟩ := uniform_get (fun e he => hz e (List.mem_cons_of_mem _ he)) h
   exact ⟨i + 1, j, e', h1, h2, by rw [Nat.add_mul]; omega⟩
theorem weights_mem_all {T : Type} {e : TypeId} : ∀ {l : List (DataW T)} {d : DataW T}, d ∈ l → ∀ n ∈ d.weights P e, n ∈ DataW.weightsAll P e l
 | d0 :: l, d, h, n, hn => by
  simp only [DataW.weightsAll, List.mem_append]
  rcases List.mem_cons.1 h with rfl | h
  ·exact .inl hn
  ·exact .inr (weights_mem_all h n hn)
theorem Cd_slice {t e : TypeId} {z : Nat} {R : List PV → Prop} (ht : P.underlying t = some (.slice e)) (hz : P.cellsOf e = z) (hpos : 0 < z) (h : Cd P e z R) :
  Cd P t 1 fun ps => ∃ es, ps = [.sl z es] ∧ (∀ x, x ∈ es → R x) ∧ es.length * P.bytesOf e ≤ 140737488351232 := fun enc W fuel cs x hx hw => by
 rcases open_slice ht hx with ⟨rfl, _⟩ | ⟨a, len, cap, m, n, D, Pl, rfl, _, hl, hm, hmm, hxe, hel⟩
 ·exact ⟨rfl, _, ⟨[], rfl, (fun x h => nomatch h), by simp⟩, rfl, fun k p hk => by
   cases k with
   | zero => simp at hk; subst hk; exact ⟨_, rfl, .nil z⟩
   | succ k => simp at hk⟩
 ·simp only [if_true] at hmm
  subst hmm
  rw [hz] at hel
  rw [hxe] at hw
  simp only [DataW.weights, ht, List.all_cons, Bool.and_eq_true, decide_eq_true_eq, List.length_map, List.length_range] at hw
  obtain ⟨hw1, hw2⟩ := hw
  have hwl : len * P.bytesOf e ≤ 140737488351232 := Nat.le_trans (Nat.mul_le_mul_right _ (Nat.le_add_right _ _)) hw1
  have hD : ∀ i, i < m → ((D i).weights P e).all (· ≤ reachBytes) = true := fun i hi => by
   rw [List.all_eq_true]
   intro k hk
   refine List.all_eq_true.1 hw2 k ?_
   rw [List.mem_append]
   rcases Nat.lt_or_ge i len with hil | hil
   ·exact .inl (weights_mem_all (List.mem_map.2 ⟨i, List.mem_range.2 hil, rfl⟩) k hk)
   ·exact .inr (weights_mem_all (List.mem_map.2 ⟨i - len, List.mem_range.2 (by omega), rfl⟩) k (by rw [show len + (i - len) = i by omega]; exact hk))
  have hq : ∀ i, i < m → ∃ ps, R ps ∧ ps.length = z ∧ ∀ (j : Nat) p, ps[j]? = some p → ∃ v, W.cell? ((a.add (i * z)).add j) = some v ∧ PR (g0 W).ro p v := fun i hi => by
   obtain ⟨cs', h1, h2⟩ := hel i hi
   obtain ⟨_, c2, c3⟩ := World.cells?_some h1
   obtain ⟨_, ps, p1, p2, p3⟩ := h enc W n cs' _ h2 (hD i hi)
   refine ⟨ps, p1, p2, fun j p hj => ?_⟩
   obtain ⟨v, v1, v2⟩ := p3 j p hj
   have hlt := lt_of_get hj
   exact ⟨v, (c3 j (by omega)).trans v1, v2⟩
  have hsp : m = 0 ∨ a.spot = none := by
   rcases Nat.eq_zero_or_pos m with h0 | h0
   ·exact .inl h0
   ·right
    obtain ⟨ps, _, p2, p3⟩ := hq 0 h0
    obtain ⟨v, hv, _⟩ := p3 0 ps[0] (List.getElem?_eq_getElem (by omega))
    simp only [Nat.zero_mul, Addr.add] at hv
    unfold World.cell? at hv
    cases hs : a.spot with
    | none => rfl
    | some s =>
     split at hv
     ·simp [hs] at hv
     ·cases hv
  obtain ⟨F, hF⟩ := choose_lt (α := List PV) hq
  let es := (List.range len).map F
  have hes : es.length = len := by simp [es]
  have hlen : ∀ e, e ∈ es → e.length = z := fun e he => by
   obtain ⟨i, hi, rfl⟩ := List.mem_map.1 he
   exact (hF i (by have := List.mem_range.1 hi; omega)).2.1
  have hcell : ∀ (k : Nat) p, es.flatten[k]? = some p → ∃ v, W.cell? ⟨a.block, a.off + k, none⟩ = some v ∧ PR (g0 W).ro p v := fun k p hk => by
   obtain ⟨i, j, e, h1, h2, rfl⟩ := uniform_get hlen hk
   have hi : i < len := by have := lt_of_get h1; omega
   simp only [es, List.getElem?_map, List.getElem?_range hi, Option.map_some, Option.some.injEq] at h1
   subst h1
   have hs := hsp.resolve_left (by omega)
   obtain ⟨v, v1, v2⟩ := (hF i (by omega)).2.2 j p h2
   rw [add_plain hs, add_plain rfl] at v1
   exact ⟨v, by rw [← Nat.add_assoc]; exact v1, v2⟩
  refine ⟨rfl, _, ⟨es, rfl, fun x hx => ?_, by rw [hes]; exact hwl⟩, rfl, fun k p hk => ?_⟩
  ·obtain ⟨i, hi, rfl⟩ := List.mem_map.1 hx
   exact (hF i (by have := List.mem_range.1 hi; omega)).1
  ·cases k with
   | zero =>
    simp at hk; subst hk
    refine ⟨_, rfl, ?_⟩
    have := PR.sl (ro := (g0 W).ro) z es a m (fun k => (W.cell? ⟨a.block, a.off + k, none⟩).getD undef) hsp (by omega) hlen (fun k p hk => by
     obtain ⟨v, v1, _⟩ := hcell k p hk
     simp only [g0, v1, Option.getD_some]) (fun k p hk => by
     obtain ⟨v, v1, v2⟩ := hcell k p hk
     simp only [v1, Option.getD_some]; exact v2)
    rw [hes] at this
    exact this
   | succ k => simp at hk
theorem arg_sl {t : TypeId} {R : List PV → Prop} (hc : Cd P t 1 R) {T : Type} {enc : TypeId × Value → T} {W : World} {a : Option Addr} {len cap : Nat} {d : DataW T} {ps : List MemPlace}
  (h : DataW.Trod enc P W 0 (fun _ => true) true t (.slice a len cap) d ps) (hw : (d.weights P t).all (· ≤ reachBytes) = true) : ∃ p, R [p] ∧ VR (g0 W) 0 p.av (.slice a len cap) := by
 obtain ⟨fuel, hf⟩ := h
 obtain ⟨_, qs, h1, h2, h3⟩ := hc enc W fuel _ _ hf hw
 match qs, h2 with
 | [p], _ =>
  obtain ⟨v, v1, v2⟩ := h3 0 p rfl
  simp [Value.cells] at v1
  subst v1
  exact ⟨p, h1, .of_PR v2⟩
def ArgsR (g : Gh) (n : Nat) : List AV → List Value → Prop
 | [], [] => True
 | a :: r, v :: s => VR g n a v ∧ ArgsR g n r s
 | _, _ => False
theorem ArgsR.get {g : Gh} {n : Nat} : ∀ {asl : List AV} {vs : List Value}, ArgsR g n asl vs → vs.length = asl.length ∧ ∀ (i : Nat) c, asl[i]? = some c → VR g n c (vs.getD i undef)
 | [], [], _ => ⟨rfl, fun i c h => by simp at h⟩
 | a :: r, v :: s, h => by
  obtain ⟨h1, h2⟩ := ArgsR.get h.2
  refine ⟨by simp [h1], fun i c hc => ?_⟩
  cases i with
  | zero => simp at hc; subst hc; exact h.1
  | succ i => simp only [List.getElem?_cons_succ] at hc; simpa using h2 i c hc
 | [], _ :: _, h => h.elim
 | _ :: _, [], h => h.elim
theorem ACalls.law {f : FuncId} {args : List AV} {Q : Mem → Prop} (h : ACalls P f args [] fun r H' => r = .sc (.bool true) ∧ Q H') {W : World} {vals : List Value} (hv : ArgsR (g0 W) 0 args vals) :
  Calls P f vals.toArray W fun e W' => e = .returned (.bool true) ∧ Below W.heap.size W W' :=
 (h.mono fun _ _ q => q.1).below (by simpa using hv.get.1) fun i c hc => by simpa [List.getD_eq_getElem?_getD, Array.getD_eq_getD_getElem?] using hv.get.2 i c hc
end Go.Proofs.Ytgdbmgnfaefhoaa.Am
namespace Go.Proofs.Ytgdbmgnfaefhoaa.Am
open Go
set_option linter.unusedVariables false
def Det (r : AV) (H1 : Mem) : AV → Mem → Prop := fun r' H' => AVLe r' r ∧ H' = H1
theorem OpS.det {P : Program} {o : Oper} {fr : Frm} {H H1 : Mem} {r : AV} (h : OpS P o fr H (Det r H1)) : OpS P o fr H fun r' H' => r' = r ∧ H' = H1 := fun g w ev h1 h2 =>
 Ls.mono (fun v w' s => s.mono' fun r' H' g' v' ⟨k1, k2⟩ hv => ⟨r, ⟨rfl, k2⟩, k1 _ _ _ hv⟩) (h g w ev h1 h2)
section
variable {P : Program} {ops : Array Oper} {cs : List Nat} {rest : List Oper} {o : Oper} {fr : Frm} {H : Mem} {K : Frm → Mem → Prop}
theorem OpsS_nil (h : K fr H) : OpsS P ops [] fr H K := h
theorem OpsS_det (r : AV) (H1 : Mem) (hg : agd ops fr o = some true) (h : OpS P o fr H (Det r H1)) (h2 : OpsS P ops rest (fr.put o.dst r) H1 K) : OpsS P ops (o :: rest) fr H K := by
 simp only [OpsS, hg]
 exact h.det.mono fun r' H' ⟨e1, e2⟩ => by subst e1 e2; exact h2
theorem OpsS_skip (hg : agd ops fr o = some false) (h : OpsS P ops rest (fr.put o.dst undefA) H K) : OpsS P ops (o :: rest) fr H K := by
 simp only [OpsS, hg]
 exact h
theorem OpsS_test {b : Bool} (hg : agd ops fr o = some true) (h : OpS P o fr H (Det (.sc (.bool b)) H)) (h1 : b = true → OpsS P ops rest (fr.put o.dst (.sc (.bool true))) H K)
  (h2 : b = false → OpsS P ops rest (fr.put o.dst (.sc (.bool false))) H K) : OpsS P ops (o :: rest) fr H K := by
 refine OpsS_det (.sc (.bool b)) H hg h ?_
 cases b
 ·exact h2 rfl
 ·exact h1 rfl
variable {B : Mem} {J : Mem → Prop} {T : Bool}
theorem DRun_det0 (r : AV) (hg : agd ops fr o = some true) (h : ∀ H0 : Mem, OpS P o fr H0 (Det r H0)) (h2 : DRun P J T ops cs rest (fr.put o.dst r) B H K) : DRun P J T ops (0 :: cs) (o :: rest) fr B H K :=
 ⟨r, H, ⟨fun _ => rfl, fun _ => List.prefix_refl _, .inl rfl, .inl ⟨hg, .inl ⟨rfl, fun H0 _ => (h H0).det⟩⟩⟩, h2⟩
theorem DRun_det4 (r : AV) (hg : agd ops fr o = some true) (h : ∀ H0 : Mem, J H0 → OpS P o fr H0 (Det r H0)) (h2 : DRun P J T ops cs rest (fr.put o.dst r) B H K) : DRun P J T ops (0 :: cs) (o :: rest) fr B H K :=
 ⟨r, H, ⟨fun _ => rfl, fun _ => List.prefix_refl _, .inl rfl, .inl ⟨hg, .inl ⟨rfl, fun H0 hJ => (h H0 hJ).det⟩⟩⟩, h2⟩
theorem DRun_det1 (r : AV) (hg : agd ops fr o = some true) (h : ∀ H0 : Mem, B <+: H0 → OpS P o fr H0 (Det r H0)) (h2 : DRun P J T ops cs rest (fr.put o.dst r) B H K) : DRun P J T ops (1 :: cs) (o :: rest) fr B H K :=
 ⟨r, H, ⟨fun _ => rfl, fun _ => List.prefix_refl _, .inl rfl, .inl ⟨hg, .inr (.inl ⟨rfl, fun H0 hB => (h H0 hB).det⟩)⟩⟩, h2⟩
theorem DRun_det2 (r : AV) (H1 : Mem) (hg : agd ops fr o = some true) (h : OpS P o fr H (Det r H1)) (hJ : J H1) (h2 : DRun P J T ops cs rest (fr.put o.dst r) H1 H1 K) : DRun P J T ops (2 :: cs) (o :: rest) fr B H K :=
 ⟨r, H1, ⟨fun h => by simp at h, fun h => absurd rfl h, .inr (.inl hJ), .inl ⟨hg, .inr (.inr ⟨by simp, h.det⟩)⟩⟩, h2⟩
theorem DRun_det3 (r : AV) (H1 : Mem) (hg : agd ops fr o = some true) (h : OpS P o fr H (Det r H1)) (hp : H <+: H1) (hJ : J H1) (h2 : DRun P J T ops cs rest (fr.put o.dst r) B H1 K) : DRun P J T ops (3 :: cs) (o :: rest) fr B H K :=
 ⟨r, H1, ⟨fun h => by simp at h, fun _ => hp, .inr (.inl hJ), .inl ⟨hg, .inr (.inr ⟨by simp, h.det⟩)⟩⟩, h2⟩
theorem DRun_detL (r : AV) (H1 : Mem) (hg : agd ops fr o = some true) (h : OpS P o fr H (Det r H1)) (h2 : DRun P J true ops cs [] (fr.put o.dst r) H1 H1 K) : DRun P J true ops (2 :: cs) [o] fr B H K :=
 ⟨r, H1, ⟨fun h => by simp at h, fun h => absurd rfl h, .inr (.inr ⟨rfl, rfl⟩), .inl ⟨hg, .inr (.inr ⟨by simp, h.det⟩)⟩⟩, h2⟩
theorem DRun_skipN {c : Nat} (hc : c ≠ 2) (hg : agd ops fr o = some false) (h : DRun P J T ops cs rest (fr.put o.dst undefA) B H K) : DRun P J T ops (c :: cs) (o :: rest) fr B H K :=
 ⟨undefA, H, ⟨fun _ => rfl, fun _ => List.prefix_refl _, .inl rfl, .inr ⟨hg, rfl, rfl⟩⟩, by rw [List.headD_cons, if_neg hc]; exact h⟩
theorem DRun_test0 {b : Bool} (hg : agd ops fr o = some true) (h : ∀ H0 : Mem, OpS P o fr H0 (Det (.sc (.bool b)) H0)) (h1 : b = true → DRun P J T ops cs rest (fr.put o.dst (.sc (.bool true))) B H K)
  (h2 : b = false → DRun P J T ops cs rest (fr.put o.dst (.sc (.bool false))) B H K) : DRun P J T ops (0 :: cs) (o :: rest) fr B H K := by
 refine DRun_det0 (.sc (.bool b)) hg h ?_
 cases b
 ·exact h2 rfl
 ·exact h1 rfl
end
theorem AVLe.trans {a b c : AV} (h : AVLe a b) (h' : AVLe b c) : AVLe a c := fun g n v hv => h' g n v (h g n v hv)
theorem AVLe.any (a : AV) : AVLe a .any := fun _ _ _ _ => .any _
theorem AVLe.agg {cs cs' : List AV} (h : ALe cs cs') : AVLe (.ag cs) (.ag cs') := fun g n v hv => by
 obtain ⟨h1, h2⟩ := h.get
 cases hv with
 | ag _ vs hs hx => exact .ag cs' vs (hs.trans h1) fun i c hc => by obtain ⟨c0, e0, l0⟩ := h2 i c hc; exact l0 _ _ _ (hx i c0 e0)
theorem AVLe.tup {cs cs' : List AV} (h : ALe cs cs') : AVLe (.tp cs) (.tp cs') := fun g n v hv => by
 obtain ⟨h1, h2⟩ := h.get
 cases hv with
 | tp _ vs hs hx => exact .tp cs' vs (hs.trans h1) fun i c hc => by obtain ⟨c0, e0, l0⟩ := h2 i c hc; exact l0 _ _ _ (hx i c0 e0)
theorem ALe.refl : ∀ l, ALe l l
 | [] => trivial
 | _ :: r => ⟨.refl _, ALe.refl r⟩
theorem ELe.refl : ∀ l, ELe l l
 | [] => trivial
 | _ :: r => ⟨.refl _, ELe.refl r⟩
def FlL (fr : Frm) : List (Nat × AV) → Prop
 | [] => True
 | (d, v) :: r => AVLe (fr d) v ∧ FlL fr r
theorem Reb.fl {N n0 : Nat} {fr : Frm} {H : Mem} {l : List (Nat × AV)} (h : FlL fr l) : Reb N n0 fr (Frm.of l) H H := fun g w tmps hn hf hm => by
 refine ⟨g, ⟨hf.size, fun t => ?_⟩, hm, .refl _ _ _, hn⟩
 induction l with
 | nil => exact .any _
 | cons p r ih =>
  obtain ⟨d, v⟩ := p
  by_cases e : t = d
  ·subst e
   simp only [Frm.of, if_true]
   exact h.1 _ _ _ (hf.vr t)
  ·simp only [Frm.of, if_neg e]
   exact ih h.2
def AVLt (n : Nat) (a a' : AV) : Prop := ∀ g m v, n < m → VR g m a v → VR g m a' v
theorem AVLt.of {n : Nat} {a a' : AV} (h : AVLe a a') : AVLt n a a' := fun g m v _ hv => h g m v hv
theorem AVLt.nil (n z : Nat) : AVLt n (.sc (.slice none 0 0)) (.sl z [] (.tk n)) := fun _ _ _ hn h => by cases h; exact .nil z _ fun t e => by cases e; exact hn
theorem AVLt.ex (n z : Nat) (es : List (List PV)) : AVLt n (.sl z es .ex) (.sl z es (.tk n)) := fun _ _ _ hn h => by
 cases h with
 | nil z => exact .nil z _ fun t e => by cases e; exact hn
 | sl z es k a cap f h1 h2 h3 h4 h5 => exact .sl z es _ a cap f h1 h2 h3 h4 ⟨hn, .inl h5⟩
def FtL (n : Nat) (fr : Frm) : List (Nat × AV) → Prop
 | [] => True
 | (d, v) :: r => AVLt n (fr d) v ∧ FtL n fr r
theorem Reb.void {N n0 : Nat} {fr : Frm} {H : Mem} {l : List (Nat × AV)} (h : FtL H.length fr l) : Reb N n0 fr (Frm.of l) H (H ++ [.tok]) := fun g w tmps hl hf hm => by
 obtain ⟨m1, m2⟩ := hm.push_void
 refine ⟨_, ⟨hf.size, ?_⟩, m1, ⟨⟨m2.gle.ro, fun i hi => m2.gle.mu i (by omega)⟩, m2.un, m2.size, m2.os, m2.tape, m2.output⟩, by simp; omega⟩
 intro t
 have hfr := (hf.mono m2.gle (by simp : H.length ≤ (H ++ [Ent.tok]).length)).vr t
 generalize tmps.getD t undef = u at hfr
 induction l with
 | nil => exact .any _
 | cons p r ih =>
  obtain ⟨d, v⟩ := p
  by_cases e : t = d
  ·subst e
   simp only [Frm.of, if_true]
   exact h.1 _ _ _ (by simp) hfr
  ·simp only [Frm.of, if_neg e]
   exact ih h.2
theorem MR.le {g : Gh} {H : Mem} {w : World} {id : Nat} {cs cs' : List AV} (hm : MR g H w) (hid : H[id]? = some (.cells cs)) (hl : ALe cs cs') : MR g (H.set id (.cells cs')) w := by
 obtain ⟨q1, q2⟩ := hl.get
 have hlen : (H.set id (Ent.cells cs')).length = H.length := by simp
 refine ⟨hm.ro, fun id' e he => ?_, fun b i hb => by rw [hlen]; exact hm.ow b i hb⟩
 rw [hlen]
 rcases get_set he with ⟨hne, he⟩ | ⟨rfl, rfl, _⟩
 ·exact hm.ent id' e he
 ·rcases hm.ent _ _ hid with ⟨e1, e2⟩ | ⟨h1, h2, h3, h4, h5⟩
  ·exact .inl ⟨List.eq_nil_of_length_eq_zero (by rw [← q1, e1]; rfl), e2⟩
  refine .inr ⟨h1, h2, by rw [← q1]; exact h3, h4, fun k c hc => ?_⟩
  obtain ⟨c0, e0, l0⟩ := q2 k c hc
  obtain ⟨v, hv, hvr⟩ := h5 k c0 e0
  exact ⟨v, hv, l0 _ _ _ hvr⟩
def ALt (n : Nat) : List AV → List AV → Prop
 | [], [] => True
 | a :: r, a' :: r' => AVLt n a a' ∧ ALt n r r'
 | _, _ => False
theorem ALt.get {n : Nat} : ∀ {l l' : List AV}, ALt n l l' → l'.length = l.length ∧ ∀ (i : Nat) c', l'[i]? = some c' → ∃ c, l[i]? = some c ∧ AVLt n c c'
 | [], [], _ => ⟨rfl, fun i c h => by simp at h⟩
 | a :: r, a' :: r', h => by
  obtain ⟨h1, h2⟩ := ALt.get h.2
  refine ⟨by simp [h1], fun i c hc => ?_⟩
  cases i with
  | zero => simp at hc; subst hc; exact ⟨a, rfl, h.1⟩
  | succ i => simp only [List.getElem?_cons_succ] at hc ⊢; exact h2 i c hc
 | [], _ :: _, h => h.elim
 | _ :: _, [], h => h.elim
theorem MR.lt {g : Gh} {H : Mem} {w : World} {id n : Nat} {cs cs' : List AV} (hm : MR g H w) (hid : H[id]? = some (.cells cs)) (hn : n < H.length) (hl : ALt n cs cs') : MR g (H.set id (.cells cs')) w := by
 obtain ⟨q1, q2⟩ := hl.get
 have hlen : (H.set id (Ent.cells cs')).length = H.length := by simp
 refine ⟨hm.ro, fun id' e he => ?_, fun b i hb => by rw [hlen]; exact hm.ow b i hb⟩
 rw [hlen]
 rcases get_set he with ⟨hne, he⟩ | ⟨rfl, rfl, _⟩
 ·exact hm.ent id' e he
 ·rcases hm.ent _ _ hid with ⟨e1, e2⟩ | ⟨h1, h2, h3, h4, h5⟩
  ·exact .inl ⟨List.eq_nil_of_length_eq_zero (by rw [q1, e1]; rfl), e2⟩
  refine .inr ⟨h1, h2, by rw [q1]; exact h3, h4, fun k c hc => ?_⟩
  obtain ⟨c0, e0, l0⟩ := q2 k c hc
  obtain ⟨v, hv, hvr⟩ := h5 k c0 e0
  exact ⟨v, hv, l0 _ _ _ hn hvr⟩
theorem Reb.voidm {N n0 : Nat} {fr : Frm} {H : Mem} {id : Nat} {cs cs' : List AV} (hid : H[id]? = some (.cells cs)) (hl : ALt H.length cs cs') : Reb N n0 fr fr H (H.set id (.cells cs') ++ [.tok]) := fun g w tmps hn hf hm => by
 obtain ⟨m1, m2⟩ := hm.push_void
 have hlt := lt_of_get hid
 have m3 := m1.lt (id := id) (by rw [List.getElem?_append_left hlt]; exact hid) (by simp) hl
 rw [List.set_append_left _ _ hlt] at m3
 exact ⟨_, by simpa using (hf.mono m2.gle (by simp : H.length ≤ (H ++ [Ent.tok]).length)), m3, ⟨⟨m2.gle.ro, fun i hi => m2.gle.mu i (by omega)⟩, m2.un, m2.size, m2.os, m2.tape, m2.output⟩, by simp; omega⟩
theorem Reb.mem {N n0 : Nat} {fr : Frm} {H : Mem} {id : Nat} {cs cs' : List AV} (hid : H[id]? = some (.cells cs)) (hl : ALe cs cs') : Reb N n0 fr fr H (H.set id (.cells cs')) := fun g w tmps hn hf hm =>
 ⟨g, by rw [List.length_set]; exact hf, hm.le hid hl, .refl _ _ _, by rw [List.length_set]; exact hn⟩
section
variable {P : Program} {N n0 : Nat} {fr : Frm} {H : Mem} {Q : Exit → Frm → Mem → Prop}
theorem aw_loopD {S T G : Type} {body : Code} {b : S → Option (Ctl T S)} {n : Nat} {s0 : S} {t : T} (hl : loopN b n s0 = some t) (F : S → G → Frm) (I : S → G → Mem → Prop) (g0 : G) {H1 : Mem} (hI : I s0 g0 H1)
  (hR : Reb N n0 fr (F s0 g0) H H1)
  (step : ∀ s g M c, I s g M → b s = some c → (∀ t', c = .ret t' → t' = t) → aw P N n0 body (F s g) M (thenQ (fun fr' M' => ∃ s' g' M'', c = .go s' ∧ I s' g' M'' ∧ Reb N n0 fr' (F s' g') M' M'') Q)) :
  aw P N n0 (.loop body) fr H Q := by
 refine aw_reb hR ?_
 refine aw_loop (fun k fr' M' => ∃ s g, loopN b k s = some t ∧ fr' = F s g ∧ I s g M') (k := n) ⟨s0, g0, hl, rfl, hI⟩ ?_
 rintro k fr' M' ⟨s, g, hk, rfl, hi⟩
 cases k with
 | zero => cases hk
 | succ k =>
  simp only [loopN] at hk
  cases hb : b s with
  | none => rw [hb] at hk; cases hk
  | some c =>
   refine aw.conseq (fun e fr2 M2 q => ?_) (step s g M' c hi hb fun t' e => by rw [hb, e] at hk; simpa using hk)
   cases e with
   | normal =>
    obtain ⟨s', g', M'', rfl, i2, r2⟩ := q
    rw [hb] at hk
    exact ⟨_, _, r2, k, Nat.lt_succ_self k, s', g', hk, rfl, i2⟩
   | _ => exact ⟨_, _, .refl, q⟩
theorem aw_joinS {S G : Type} {x y : Code} (s : S) (F : S → G → Frm) (I : S → G → Mem → Prop)
  (h : aw P N n0 x fr H (thenQ (fun fr' M' => ∃ g M'', I s g M'' ∧ Reb N n0 fr' (F s g) M' M'') Q)) (h2 : ∀ g M, I s g M → aw P N n0 y (F s g) M Q) : aw P N n0 (.seq x y) fr H Q :=
 aw_seq (aw.conseq (fun e fr' H' q => by
  cases e with
  | normal =>
   obtain ⟨g, M'', i1, r1⟩ := q
   exact ⟨_, _, r1, h2 g M'' i1⟩
  | _ => exact ⟨_, _, .refl, q⟩) h)
end
section
variable {P : Program} {N n0 : Nat} {fr : Frm} {H : Mem} {Q : Exit → Frm → Mem → Prop}
theorem aw_tailD {S E G : Type} {x : Code} (c : Ctl E S) (F : S → G → Frm) (I : S → G → Mem → Prop)
  (h : aw P N n0 x fr H (thenQ (fun fr' M' => ∃ s g M'', c = .go s ∧ I s g M'' ∧ Reb N n0 fr' (F s g) M' M'') Q)) (h2 : ∀ s g M, c = .go s → I s g M → Q .normal (F s g) M) : aw P N n0 x fr H Q :=
 aw.conseq (fun e fr' H' q => by
  cases e with
  | normal =>
   obtain ⟨s, g, M'', e1, i1, r1⟩ := q
   exact ⟨_, _, r1, h2 s g M'' e1 i1⟩
  | _ => exact ⟨_, _, .refl, q⟩) h
theorem aw_tailS {S G : Type} {x : Code} (s : S) (F : S → G → Frm) (I : S → G → Mem → Prop)
  (h : aw P N n0 x fr H (thenQ (fun fr' M' => ∃ g M'', I s g M'' ∧ Reb N n0 fr' (F s g) M' M'') Q)) (h2 : ∀ g M, I s g M → Q .normal (F s g) M) : aw P N n0 x fr H Q :=
 aw.conseq (fun e fr' H' q => by
  cases e with
  | normal =>
   obtain ⟨g, M'', i1, r1⟩ := q
   exact ⟨_, _, r1, h2 g M'' i1⟩
  | _ => exact ⟨_, _, .refl, q⟩) h
end
section
variable {A M : Mem} {i j : Nat} {x y : Ent}
theorem get_app {tl : Mem} (h : M[i]? = some x) : (M ++ tl)[i]? = some x := by rw [List.getElem?_append_left (lt_of_get h)]; exact h
theorem get_new : (M ++ [x])[M.length]? = some x := by simp
theorem get_new2 {y : Ent} : (M.set i y ++ [x])[M.length]? = some x := by
 have q := get_new (M := M.set i y) (x := x)
 rw [List.length_set] at q; exact q
theorem get_self (h : M[i]? = some y) : (M.set i x)[i]? = some x := by rw [List.getElem?_set_self (lt_of_get h)]
theorem get_ne (hne : i ≠ j) (h : M[i]? = some x) : (M.set j y)[i]? = some x := by rw [List.getElem?_set_ne (Ne.symm hne)]; exact h
theorem pre_app {tl : Mem} (h : A <+: M) : A <+: M ++ tl := h.trans (List.prefix_append _ _)
theorem pre_get (h : A <+: M) (hi : A[i]? = some x) : M[i]? = some x := by
 obtain ⟨tl, rfl⟩ := h
 exact get_app hi
theorem pre_hi (h : A <+: M) (hi : A.length ≤ i) : A <+: M.set i x := by
 obtain ⟨tl, rfl⟩ := h
 rw [List.set_append_right _ _ hi]
 exact List.prefix_append _ _
theorem pre_lo (h : A <+: M) (hi : i < A.length) : A.set i x <+: M.set i x := by
 obtain ⟨tl, rfl⟩ := h
 rw [List.set_append_left _ _ hi]
 exact List.prefix_append _ _
theorem mset_same (h : M[i]? = some x) : M.set i x = M := by
 apply List.ext_getElem?
 intro k
 by_cases e : i = k
 ·subst e; rw [get_self h, h]
 ·rw [List.getElem?_set_ne e]
theorem pre_set (h : M[i]? = some x) : M.set i x <+: M := by rw [mset_same h]; exact List.prefix_refl _
theorem tok_ne {cs : List AV} (h : M[i]? = some (.cells cs)) (h2 : M[j]? = some .tok) : i ≠ j := by
 rintro rfl
 rw [h] at h2; cases h2
theorem pre_len (h : A <+: M) : A.length ≤ M.length := h.length_le
end
def AV.clo1 : AV → Bool
 | .any | .sc _ | .sl _ _ .no | .sl _ _ .ex | .ep _ => true
 | _ => false
def AV.clo2 : AV → Bool
 | .ag cs => cs.all AV.clo1
 | a => a.clo1
def AV.clo : AV → Bool
 | .tp cs => cs.all AV.clo2
 | a => a.clo2
theorem AV.clo1_bd {n : Nat} {a : AV} (h : a.clo1 = true) : Bd n a := by
 unfold AV.clo1 at h
 split at h
 ·exact .any
 ·exact .sc _
 ·exact .sl _ _ _ fun t e => by cases e
 ·exact .sl _ _ _ fun t e => by cases e
 ·exact .ep _
 ·cases h
theorem AV.clo2_bd {n : Nat} {a : AV} (h : a.clo2 = true) : Bd n a := by
 unfold AV.clo2 at h
 split at h
 ·exact .ag _ fun i c hc => clo1_bd (List.all_eq_true.1 h c (List.mem_of_getElem? hc))
 ·exact clo1_bd h
theorem AV.clo_bd {n : Nat} {a : AV} (h : a.clo = true) : Bd n a := by
 unfold AV.clo at h
 split at h
 ·exact .tp _ fun i c hc => clo2_bd (List.all_eq_true.1 h c (List.mem_of_getElem? hc))
 ·exact clo2_bd h
theorem MBd.set {H : Mem} {p : Nat} {cs : List AV} (hH : MBd H) (hc : cs.all AV.clo1 = true) : MBd (H.set p (.cells cs)) := fun id e he => by
 rw [List.length_set]
 rcases get_set he with ⟨_, he⟩ | ⟨rfl, rfl, _⟩
 ·exact hH id e he
 ·exact fun i c hc' => AV.clo1_bd (List.all_eq_true.1 hc c (List.mem_of_getElem? hc'))
theorem ACalls.done {P : Program} {f : FuncId} {args : List AV} {H H1 : Mem} {r0 : AV} (hn : H.length ≤ H1.length) (hB : MBd H → MBd H1) (hb : Bd H1.length r0)
  (h : ACalls P f args H fun r M => AVLe r r0 ∧ H1 <+: M) : ACalls P f args H fun r M => r = r0 ∧ M = H1 := by
 refine ⟨h.1, fun g w vals hm hs hv => (h.2 g w vals hm hs hv).mono ?_⟩
 rintro e w' ⟨v, he, s⟩
 refine ⟨v, he, SR.trim (R := fun r M => r = r0 ∧ H1 <+: M) (s.mono' fun r' H' g' v' ⟨k1, k2⟩ hv' => ⟨r0, ⟨rfl, k2⟩, k1 _ _ _ hv'⟩) ?_⟩
 rintro r H' ⟨rfl, tl, rfl⟩
 exact ⟨H1, tl, rfl, hn, hB fun id e he => (hm.ent id e he).bd, hb, rfl, rfl⟩
theorem ACalls.done0 {P : Program} {f : FuncId} {args : List AV} {H : Mem} {r0 : AV} (hb : r0.clo = true)
  (h : ACalls P f args H fun r M => AVLe r r0 ∧ H <+: M) : ACalls P f args H fun r M => r = r0 ∧ M = H := ACalls.done (Nat.le_refl _) id (AV.clo_bd hb) h
end Go.Proofs.Ytgdbmgnfaefhoaa.Am
namespace Go.Proofs.Ytgdbmgnfaefhoaa.Am
open Go
set_option linter.unusedVariables false
section
variable {P : Program} {fr : Frm} {H : Mem} {dst : Option Nat} {ty : TypeId} {pos : String} {after : Array Edge} {guard : Option (Nat × Bool)}
theorem o_move {x : Operand} {r : AV} (h : AVLe (aev fr x) r) : OpS P ⟨dst, .move x, ty, pos, after, guard⟩ fr H (Det r H) := opS_move ⟨h, rfl⟩
theorem o_assign {x : Operand} {r : AV} (h : AVLe (aev fr x) r) : OpS P ⟨dst, .assign x, ty, pos, after, guard⟩ fr H (Det r H) := opS_assign ⟨h, rfl⟩
theorem o_pick {c x y : Operand} {b : Bool} {r : AV} (hc : aev fr c = .sc (.bool b)) (h : AVLe (if b then aev fr x else aev fr y) r) : OpS P ⟨dst, .pick c x y, ty, pos, after, guard⟩ fr H (Det r H) := opS_pick hc ⟨h, rfl⟩
theorem o_bin {op : BinOp} {t t' : TypeId} {x y : Operand} {v : Value} (hv : aBin P op t (aev fr x) (aev fr y) = some v) : OpS P ⟨dst, .binOp op t x y t', ty, pos, after, guard⟩ fr H (Det (.sc v) H) := opS_binOp hv ⟨.refl _, rfl⟩
theorem o_int {op : BinOp} {t t' : TypeId} {x y : Operand} {k : IntKind} {a b : Int} {v : Value} (hx : aev fr x = .sc (.int k a)) (hy : aev fr y = .sc (.int k b)) (ho : (match op with | .shl | .shr => false | _ => true) = true)
  (hv : intBin op k a b = some v) : OpS P ⟨dst, .binOp op t x y t', ty, pos, after, guard⟩ fr H (Det (.sc v) H) := o_bin (by
 rw [hx, hy]
 cases op <;> first | exact absurd ho (by decide) | simpa [aBin] using hv)
theorem o_shl {t t' : TypeId} {x y : Operand} {k k' : IntKind} {a b : Int} {n : Nat} (hx : aev fr x = .sc (.int k a)) (hy : aev fr y = .sc (.int k' b)) (hn : cnt k b = some n) :
  OpS P ⟨dst, .binOp .shl t x y t', ty, pos, after, guard⟩ fr H (Det (.sc (.int k (shlI k a n))) H) := o_bin (by
 obtain ⟨h0, rfl⟩ := cnt_some hn
 rw [hx, hy]
 simp only [aBin, if_pos h0, shlI])
theorem o_shr {t t' : TypeId} {x y : Operand} {k k' : IntKind} {a b : Int} {n : Nat} (hx : aev fr x = .sc (.int k a)) (hy : aev fr y = .sc (.int k' b)) (hn : cnt k b = some n) :
  OpS P ⟨dst, .binOp .shr t x y t', ty, pos, after, guard⟩ fr H (Det (.sc (.int k (shrI a n))) H) := o_bin (by
 obtain ⟨h0, rfl⟩ := cnt_some hn
 rw [hx, hy]
 simp only [aBin, if_pos h0, shrI])
theorem o_quo {t t' : TypeId} {x y : Operand} {k : IntKind} {a b n : Int} (hx : aev fr x = .sc (.int k a)) (hy : aev fr y = .sc (.int k b)) (hn : quoI k a b = some n) :
  OpS P ⟨dst, .binOp .quo t x y t', ty, pos, after, guard⟩ fr H (Det (.sc (.int k n)) H) := o_int hx hy rfl (by
 obtain ⟨h0, rfl⟩ := quoI_some hn
 simp only [intBin, if_neg h0])
theorem o_rem {t t' : TypeId} {x y : Operand} {k : IntKind} {a b n : Int} (hx : aev fr x = .sc (.int k a)) (hy : aev fr y = .sc (.int k b)) (hn : remI a b = some n) :
  OpS P ⟨dst, .binOp .rem t x y t', ty, pos, after, guard⟩ fr H (Det (.sc (.int k n)) H) := o_int hx hy rfl (by
 obtain ⟨h0, rfl⟩ := remI_some hn
 simp only [intBin, if_neg h0])
theorem o_eqB {t t' : TypeId} {x y : Operand} {a b : Bool} (hu : P.underlying t = some .bool) (hx : aev fr x = .sc (.bool a)) (hy : aev fr y = .sc (.bool b)) :
  OpS P ⟨dst, .binOp .eql t x y t', ty, pos, after, guard⟩ fr H (Det (.sc (.bool (a == b))) H) := o_bin (by rw [hx, hy]; simp only [aBin, aEq, hu]; rfl)
theorem o_str {op : BinOp} {t t' : TypeId} {x y : Operand} {a b : List UInt8} {v : Value} (hx : aev fr x = .sc (.string ⟨a.toArray⟩)) (hy : aev fr y = .sc (.string ⟨b.toArray⟩)) (hv : strBin op ⟨a.toArray⟩ ⟨b.toArray⟩ = some v) :
  OpS P ⟨dst, .binOp op t x y t', ty, pos, after, guard⟩ fr H (Det (.sc v) H) := o_bin (by rw [hx, hy]; exact hv)
theorem o_eqS {t t' : TypeId} {x y : Operand} {a b : List UInt8} (hx : aev fr x = .sc (.string ⟨a.toArray⟩)) (hy : aev fr y = .sc (.string ⟨b.toArray⟩)) :
  OpS P ⟨dst, .binOp .eql t x y t', ty, pos, after, guard⟩ fr H (Det (.sc (.bool (a == b))) H) := o_str hx hy (by simp [strBin])
theorem o_neS {t t' : TypeId} {x y : Operand} {a b : List UInt8} (hx : aev fr x = .sc (.string ⟨a.toArray⟩)) (hy : aev fr y = .sc (.string ⟨b.toArray⟩)) :
  OpS P ⟨dst, .binOp .neq t x y t', ty, pos, after, guard⟩ fr H (Det (.sc (.bool (a != b))) H) := o_str hx hy (by simp [strBin, bne])
theorem o_convI {s d : TypeId} {x : Operand} {k k' : IntKind} {n : Int} {u : TypeDesc} (hs : P.underlying s = some u) (hd : P.underlying d = some (.int k)) (hx : aev fr x = .sc (.int k' n)) :
  OpS P ⟨dst, .convert s d x, ty, pos, after, guard⟩ fr H (Det (.sc (.int k (k.wrap n))) H) := opS_convert (v := .int k (k.wrap n)) (by simp only [aConv, hs, hd, hx]) ⟨.refl _, rfl⟩
theorem all_c_u8 (l : List Int) : ((l.map c_u8).all fun e => (byteOf e).isSome) = true := by
 rw [List.all_map, List.all_eq_true]
 intro x _
 rfl
theorem bytesOf_c_u8 (l : List Int) : bytesOf (l.map c_u8) = ⟨(strOf l).toArray⟩ := by
 unfold bytesOf strOf
 rw [List.filterMap_map]
 have : (byteOf ∘ c_u8) = fun n => some (u8 n) := funext fun _ => rfl
 rw [this]
 congr 2
 induction l with
 | nil => rfl
 | cons x l ih => simp [ih]
theorem o_convS {s d e : TypeId} {x : Operand} {l : List Int} {k : Tk} (hs : P.underlying s = some (.slice e)) (he : P.underlying e = some (.int .u8)) (hd : P.underlying d = some .string) (hx : aev fr x = .sl 1 (l.map c_u8) k) :
  OpS P ⟨dst, .convert s d x, ty, pos, after, guard⟩ fr H (Det (.sc (.string ⟨(strOf l).toArray⟩)) H) := opS_convert (v := .string ⟨(strOf l).toArray⟩) (by simp only [aConv, hs, hd, hx, he, if_true, all_c_u8, bytesOf_c_u8]) ⟨.refl _, rfl⟩
theorem o_alloc {t : TypeId} {s b : Nat} {z : Value} {H1 : Mem} (ht : tinf P t = some (s, b, some z)) (hM : H1 = H ++ [.cells (zeroCs z)]) : OpS P ⟨dst, .alloc t, ty, pos, after, guard⟩ fr H (Det (.pt H.length 0) H1) := opS_alloc ht ⟨.refl _, hM.symm⟩
theorem o_box {t : TypeId} {x : Operand} {H1 : Mem} (hf : (aev fr x).flat = true) (hM : H1 = H ++ [.cells (aev fr x).cells]) : OpS P ⟨dst, .box t x, ty, pos, after, guard⟩ fr H (Det (.pt H.length 0) H1) := opS_box hf ⟨.refl _, hM.symm⟩
theorem o_extract {x : Operand} {i : Nat} {vs : List AV} {a : AV} (hx : aev fr x = .tp vs) (ha : vs[i]? = some a) : OpS P ⟨dst, .extract x i, ty, pos, after, guard⟩ fr H (Det a H) := opS_extract hx ha ⟨.refl _, rfl⟩
theorem o_nilCheck {x : Operand} {r : AV} (ht : (aev fr x).there = true) (h : AVLe (aev fr x) r) : OpS P ⟨dst, .nilCheck x, ty, pos, after, guard⟩ fr H (Det r H) := opS_nilCheck ht ⟨h, rfl⟩
theorem o_loadE {t : TypeId} {x : Operand} {q : Nat × Nat × Option Value} {p : PV} {ps : List PV} {r : AV} (hag : aggT P t = some false) (hti : tinf P t = some q) (hx : aev fr x = .ep (p :: ps)) (h : AVLe p.av r) :
  OpS P ⟨dst, .load t x, ty, pos, after, guard⟩ fr H (Det r H) := opS_load (by simp only [aLoad, hag, hti, hx]; exact ⟨h, rfl⟩)
theorem o_loadEA {t : TypeId} {x : Operand} {s b : Nat} {z : Option Value} {cs : List PV} {r : AV} (hag : aggT P t = some true) (hti : tinf P t = some (s, b, z)) (hx : aev fr x = .ep cs) (hl : s ≤ cs.length)
  (h : AVLe (.ag ((cs.take s).map PV.av)) r) : OpS P ⟨dst, .load t x, ty, pos, after, guard⟩ fr H (Det r H) := opS_load (by simp only [aLoad, hag, hti, hx]; exact ⟨hl, h, rfl⟩)
theorem o_loadP {t : TypeId} {x : Operand} {q : Nat × Nat × Option Value} {id off : Nat} {cs : List AV} {c r : AV} (hag : aggT P t = some false) (hti : tinf P t = some q) (hx : aev fr x = .pt id off) (hm : H[id]? = some (.cells cs))
  (hc : cs[off]? = some c) (h : AVLe c r) : OpS P ⟨dst, .load t x, ty, pos, after, guard⟩ fr H (Det r H) := opS_load (by simp only [aLoad, hag, hti, hx, hm, hc]; exact ⟨h, rfl⟩)
theorem o_loadPA {t : TypeId} {x : Operand} {s b : Nat} {z : Option Value} {id off : Nat} {cs : List AV} {r : AV} (hag : aggT P t = some true) (hti : tinf P t = some (s, b, z)) (hx : aev fr x = .pt id off) (hm : H[id]? = some (.cells cs))
  (hl : off + s ≤ cs.length) (h : AVLe (.ag ((cs.drop off).take s)) r) : OpS P ⟨dst, .load t x, ty, pos, after, guard⟩ fr H (Det r H) := opS_load (by simp only [aLoad, hag, hti, hx, hm]; exact ⟨hl, h, rfl⟩)
theorem o_store {t : TypeId} {x y : Operand} {s b : Nat} {z : Option Value} {id off : Nat} {cs cs' : List AV} {v : AV} {H1 : Mem} (hti : tinf P t = some (s, b, z)) (hx : aev fr x = .pt id off) (hy : aev fr y = v) (hm : H[id]? = some (.cells cs))
  (h0 : s ≠ 0) (hf : v.flat = true) (hs : v.cells.length = s) (hc : v.cells.all AV.cellish = true) (hl : off + s ≤ cs.length) (he : setAt cs off v.cells = cs') (hM : H1 = H.set id (.cells cs')) :
  OpS P ⟨dst, .store t x y, ty, pos, after, guard⟩ fr H (Det undefA H1) := opS_store (by
 subst hy he
 simp only [aStore, hti, hx, hm]
 exact ⟨h0, hf, hs, hc, hl, .refl _, hM.symm⟩)
theorem o_fieldAddrP {s ft fo : Nat} {x : Operand} {i : Nat} {fs : Array Field} {sz b : Nat} {z : Option Value} {id off : Nat} (hu : P.underlying s = some (.struct fs)) (hf : (fs[i]?).map (fun f => (f.type, f.offset)) = some (ft, fo)) (ht : tinf P ft = some (sz, b, z)) (hq : sz ≠ 0)
  (hx : aev fr x = .pt id off) : OpS P ⟨dst, .fieldAddr s x i, ty, pos, after, guard⟩ fr H (Det (.pt id (off + fo)) H) := opS_fieldAddr (by
 cases hf' : fs[i]? with
 | none => rw [hf'] at hf; cases hf
 | some f =>
  rw [hf'] at hf
  cases hf
  simp only [aFieldAddr, hu, hf', ht, hx]
  exact ⟨hq, .refl _, rfl⟩)
theorem o_fieldAddrE {s ft fo : Nat} {x : Operand} {i : Nat} {fs : Array Field} {sz b : Nat} {z : Option Value} {cs : List PV} (hu : P.underlying s = some (.struct fs)) (hf : (fs[i]?).map (fun f => (f.type, f.offset)) = some (ft, fo)) (ht : tinf P ft = some (sz, b, z)) (hq : sz ≠ 0)
  (hx : aev fr x = .ep cs) : OpS P ⟨dst, .fieldAddr s x i, ty, pos, after, guard⟩ fr H (Det (.ep (cs.drop fo)) H) := opS_fieldAddr (by
 cases hf' : fs[i]? with
 | none => rw [hf'] at hf; cases hf
 | some f =>
  rw [hf'] at hf
  cases hf
  simp only [aFieldAddr, hu, hf', ht, hx]
  exact ⟨hq, .refl _, rfl⟩)
section
variable {α : Type} {c : α → List PV}
theorem map_idx {l : List α} {i : Int} {a : α} (h : idx l i = some a) : 0 ≤ i ∧ (l.map c)[i.toNat]? = some (c a) := by
 obtain ⟨h0, h1⟩ := idx_some h
 exact ⟨h0, by rw [List.getElem?_map, h1]; rfl⟩
theorem o_indexAddr {t e : TypeId} {x y : Operand} {s b : Nat} {z : Option Value} {l : List α} {k : Tk} {kk : IntKind} {i : Int} {a : α} (hu : P.underlying t = some (.slice e)) (hti : tinf P e = some (s, b, z)) (hx : aev fr x = .sl s (l.map c) k)
  (hy : aev fr y = .sc (.int kk i)) (hi : idx l i = some a) : OpS P ⟨dst, .indexAddr t x y, ty, pos, after, guard⟩ fr H (Det (.ep (c a)) H) := opS_indexAddr (by
 obtain ⟨h0, h1⟩ := map_idx (c := c) hi
 simp only [aIndexAddr, hu, hti, hx, hy, h1]
 exact ⟨trivial, h0, .refl _, rfl⟩)
theorem o_indexAddrH {t e : TypeId} {x y : Operand} {s b : Nat} {z : Option Value} {id off len mc : Nat} {kk : IntKind} {i : Int} (hu : P.underlying t = some (.slice e)) (hti : tinf P e = some (s, b, z)) (hx : aev fr x = .hs id off len mc s)
  (hy : aev fr y = .sc (.int kk i)) (h0 : 0 ≤ i) (h1 : i < len) : OpS P ⟨dst, .indexAddr t x y, ty, pos, after, guard⟩ fr H (Det (.pt id (off + i.toNat * s)) H) := opS_indexAddr (by
 simp only [aIndexAddr, hu, hti, hx, hy]
 exact ⟨trivial, h0, h1, .refl _, rfl⟩)
theorem o_lenL {t e : TypeId} {x : Operand} {z : Nat} {l : List α} {k : Tk} (hu : P.underlying t = some (.slice e)) (hx : aev fr x = .sl z (l.map c) k) :
  OpS P ⟨dst, .call ⟨.builtin .len, #[x], #[t]⟩, ty, pos, after, guard⟩ fr H (Det (.sc (.int .i64 l.length)) H) := opS_len (n := l.length) (by simp only [aLen, hu, hx, List.length_map]) ⟨.refl _, rfl⟩
theorem o_lenN {t e : TypeId} {x : Operand} (hu : P.underlying t = some (.slice e)) (hx : aev fr x = .sc (.slice none 0 0)) :
  OpS P ⟨dst, .call ⟨.builtin .len, #[x], #[t]⟩, ty, pos, after, guard⟩ fr H (Det (.sc (.int .i64 0)) H) := opS_len (n := 0) (by simp only [aLen, hu, hx]; rfl) ⟨.refl _, rfl⟩
theorem o_lenH {t e : TypeId} {x : Operand} {id off len mc s : Nat} (hu : P.underlying t = some (.slice e)) (hx : aev fr x = .hs id off len mc s) :
  OpS P ⟨dst, .call ⟨.builtin .len, #[x], #[t]⟩, ty, pos, after, guard⟩ fr H (Det (.sc (.int .i64 len)) H) := opS_len (n := len) (by simp only [aLen, hu, hx]) ⟨.refl _, rfl⟩
theorem o_max {ats : Array TypeId} {x y : Operand} {k : IntKind} {a b : Int} (hx : aev fr x = .sc (.int k a)) (hy : aev fr y = .sc (.int k b)) : OpS P ⟨dst, .call ⟨.builtin .max, #[x, y], ats⟩, ty, pos, after, guard⟩ fr H (Det (.sc (.int k (maxI a b))) H) :=
 opS_max (v := .int k (maxI a b)) (by rw [hx, hy]; rfl) ⟨.refl _, rfl⟩
theorem o_min {ats : Array TypeId} {x y : Operand} {k : IntKind} {a b : Int} (hx : aev fr x = .sc (.int k a)) (hy : aev fr y = .sc (.int k b)) : OpS P ⟨dst, .call ⟨.builtin .min, #[x, y], ats⟩, ty, pos, after, guard⟩ fr H (Det (.sc (.int k (minI a b))) H) :=
 opS_min (v := .int k (minI a b)) (by rw [hx, hy]; rfl) ⟨.refl _, rfl⟩
theorem o_slice {t e : TypeId} {x : Operand} {lo hi mx : Option Operand} {s b : Nat} {z : Option Value} {l m : List α} {k : Tk} {lo' hi' mx' : Option (IntKind × Int)} (hu : P.underlying t = some (.slice e)) (hti : tinf P e = some (s, b, z))
  (hx : aev fr x = .sl s (l.map c) k) (hl : bnd fr lo = some lo') (hh : bnd fr hi = some hi') (hmx : bnd fr mx = some mx') (hs : slc l (bd0 lo' 0) (bd0 hi' l.length) = some m)
  (hm : mx'.isSome = true → hi'.isSome = true ∧ bd0 hi' l.length = bd0 mx' l.length) : OpS P ⟨dst, .slice t x lo hi mx, ty, pos, after, guard⟩ fr H (Det (.sl s (m.map c) (tkS k hi' mx' l.length)) H) := by
 obtain ⟨h0, h1, h2, rfl⟩ := slc_some hs
 refine opS_slice hl hh hmx ?_
 refine ⟨fun h => (hm h).1, ?_⟩
 simp only [hu, hti, hx, List.length_map, true_and]
 have e1 : bd0 hi' (l.length : Int) ≤ bd0 mx' (l.length : Int) ∧ bd0 mx' (l.length : Int) ≤ l.length := by
  cases mx' with
  | none => exact ⟨h2, Int.le_refl _⟩
  | some q => have := (hm rfl).2; omega
 refine ⟨h0, h1, e1.1, e1.2, ?_, rfl⟩
 rw [List.map_drop, List.map_take]
 exact .refl _
theorem o_sliceNil {t e : TypeId} {x : Operand} {lo hi mx : Option Operand} {s b : Nat} {z : Option Value} {m : List α} {lo' hi' mx' : Option (IntKind × Int)} (hu : P.underlying t = some (.slice e)) (hti : tinf P e = some (s, b, z))
  (hx : aev fr x = .sc (.slice none 0 0)) (hl : bnd fr lo = some lo') (hh : bnd fr hi = some hi') (hmx : bnd fr mx = some mx') (hs : slc ([] : List α) (bd0 lo' 0) (bd0 hi' 0) = some m)
  (hm : mx'.isSome = true → hi'.isSome = true ∧ bd0 hi' 0 = bd0 mx' 0) : OpS P ⟨dst, .slice t x lo hi mx, ty, pos, after, guard⟩ fr H (Det (.sc (.slice none 0 0)) H) := by
 obtain ⟨h0, h1, h2, rfl⟩ := slc_some hs
 simp only [List.length_nil] at h2
 refine opS_slice hl hh hmx ?_
 refine ⟨fun h => (hm h).1, ?_⟩
 simp only [hu, hti, hx]
 have e1 : bd0 mx' (0 : Int) = 0 := by
  cases mx' with
  | none => rfl
  | some q => have := (hm rfl).2; omega
 exact ⟨by omega, by omega, e1, .refl _, rfl⟩
theorem o_app0 {t u e : TypeId} {x y : Operand} {s b : Nat} {z : Value} {l l2 m : List α} (hx : aev fr x = .sl s (l.map c) .ex ∨ (aev fr x = .sc (.slice none 0 0) ∧ l = [])) (hy : srcP s (aev fr y) H = some (l2.map c))
  (hu : P.underlying t = some (.slice e)) (hti : tinf P e = some (s, b, some z)) (hz : (zeroCs z).length = s) (hss : sliceStr P u = true) (happ : app b l l2 = some m) :
  OpS P ⟨dst, .call ⟨.builtin .append, #[x, y], #[t, u]⟩, ty, pos, after, guard⟩ fr H (Det (.sl s (m.map c) .no) H) := by
 obtain ⟨h1, h2, rfl⟩ := app_some happ
 refine opS_append 0 ⟨hss, ?_⟩
 simp only [hu, hti, hy]
 refine ⟨hz, ?_⟩
 rcases hx with hx | ⟨hx, rfl⟩
 ·simp only [hx, List.length_map]
  refine ⟨trivial, h1, h2, fun h => by omega, ?_, rfl⟩
  rw [List.map_append]; exact .refl _
 ·simp only [hx, List.length_map]
  simp only [List.length_nil, Nat.zero_add] at h1 h2
  exact ⟨h1, h2, .refl _, rfl⟩
theorem o_app1 {t u e : TypeId} {x y : Operand} {s b : Nat} {z : Value} {l l2 m : List α} {H1 : Mem} (hx : aev fr x = .sl s (l.map c) .ex ∨ (aev fr x = .sc (.slice none 0 0) ∧ l = [])) (hy : srcP s (aev fr y) H = some (l2.map c))
  (hu : P.underlying t = some (.slice e)) (hti : tinf P e = some (s, b, some z)) (hz : (zeroCs z).length = s) (hss : sliceStr P u = true) (happ : app b l l2 = some m) (hM : H1 = H ++ [.tok]) :
  OpS P ⟨dst, .call ⟨.builtin .append, #[x, y], #[t, u]⟩, ty, pos, after, guard⟩ fr H (Det (.sl s (m.map c) (.tk H.length)) H1) := by
 obtain ⟨h1, h2, rfl⟩ := app_some happ
 refine opS_append 1 ⟨hss, ?_⟩
 simp only [hu, hti, hy]
 refine ⟨hz, ?_⟩
 rcases hx with hx | ⟨hx, rfl⟩
 ·simp only [hx, List.length_map]
  refine ⟨trivial, h1, h2, fun h => by omega, ?_, hM.symm⟩
  rw [List.map_append]; exact .refl _
 ·simp only [hx, List.length_map]
  simp only [List.length_nil, Nat.zero_add] at h1 h2
  exact ⟨h1, h2, .refl _, hM.symm⟩
theorem o_appT {t u e : TypeId} {x y : Operand} {s b tk : Nat} {z : Value} {l l2 m : List α} {H1 : Mem} (hx : aev fr x = .sl s (l.map c) (.tk tk)) (hk : H[tk]? = some .tok) (hy : srcP s (aev fr y) H = some (l2.map c))
  (hu : P.underlying t = some (.slice e)) (hti : tinf P e = some (s, b, some z)) (hz : (zeroCs z).length = s) (hss : sliceStr P u = true) (happ : app b l l2 = some m) (hM : H1 = H.set tk .dead ++ [.tok]) :
  OpS P ⟨dst, .call ⟨.builtin .append, #[x, y], #[t, u]⟩, ty, pos, after, guard⟩ fr H (Det (.sl s (m.map c) (.tk H.length)) H1) := by
 obtain ⟨h1, h2, rfl⟩ := app_some happ
 refine opS_append 1 ⟨hss, ?_⟩
 simp only [hu, hti, hy, hx, List.length_map]
 refine ⟨hz, trivial, hk, h1, h2, ?_, hM.symm⟩
 rw [List.map_append]; exact .refl _
theorem o_app2 {t u e : TypeId} {x y : Operand} {s b : Nat} {z : Value} {l2 m : List α} {H1 : Mem} (hx : aev fr x = .sl s [] .ex ∨ aev fr x = .sc (.slice none 0 0)) (hy : srcP s (aev fr y) H = some (l2.map c))
  (hu : P.underlying t = some (.slice e)) (hti : tinf P e = some (s, b, some z)) (hz : (zeroCs z).length = s) (hss : sliceStr P u = true) (happ : app b [] l2 = some m) (hM : H1 = H ++ [.cells ((m.map c).flatten.map PV.av)]) :
  OpS P ⟨dst, .call ⟨.builtin .append, #[x, y], #[t, u]⟩, ty, pos, after, guard⟩ fr H (Det (.hs H.length 0 m.length m.length s) H1) := by
 obtain ⟨h1, h2, rfl⟩ := app_some happ
 simp only [List.length_nil, Nat.zero_add] at h1 h2
 refine opS_append 2 ⟨hss, ?_⟩
 simp only [hu, hti, hy]
 refine ⟨hz, ?_⟩
 have key : aFresh 2 s (m.map c) H (Det (.hs H.length 0 m.length m.length s) H1) := by
  show Det _ H1 (.hs H.length 0 (m.map c).length (m.map c).length s) (H ++ [.cells ((m.map c).flatten.map PV.av)])
  rw [List.length_map]
  exact ⟨.refl _, hM.symm⟩
 rcases hx with hx | hx
 ·simp only [hx, List.length_map, List.length_nil, Nat.zero_add]
  exact ⟨trivial, h1, h2, fun h => .inr trivial, key⟩
 ·simp only [hx, List.length_map]
  exact ⟨h1, h2, key⟩
theorem src_sl {s : Nat} {l : List α} {k : Tk} {x : AV} (h : x = .sl s (l.map c) k) : srcP s x H = some (l.map c) := by subst h; simp only [srcP, if_true]
theorem o_make0 {t e : TypeId} {x y : Operand} {s b : Nat} {z : Value} {k1 k2 : IntKind} {n : Int} {a : α} {m : List α} (hu : P.underlying t = some (.slice e)) (hti : tinf P e = some (s, b, some z)) (hz : (zeroCs z).length = s)
  (hx : aev fr x = .sc (.int k1 n)) (hy : aev fr y = .sc (.int k2 n)) (ha : (zeroCs z).mapM AV.pv = some (c a)) (hm : mks b a n = some m) :
  OpS P ⟨dst, .makeSlice t x y, ty, pos, after, guard⟩ fr H (Det (.sl s (m.map c) .ex) H) := opS_makeSlice 0 (by
 obtain ⟨h0, h1, h2, rfl⟩ := mks_some hm
 simp only [aMake, hu, hti, hx, hy, ha]
 refine ⟨hz, h0, trivial, h1, h2, ?_, rfl⟩
 rw [List.map_replicate]; exact .refl _)
end
section
variable {α : Type} {c : α → List PV} {z : Nat}
theorem flat_len (hz : ∀ a, (c a).length = z) (l : List α) : ((l.map c).flatten.map PV.av).length = l.length * z := by
 rw [List.length_map, flatten_length (z := z) (by intro e he; obtain ⟨a, _, rfl⟩ := List.mem_map.1 he; exact hz a), List.length_map]
theorem flat_get (hz : ∀ a, (c a).length = z) : ∀ {l : List α} {i : Nat} {a : α}, l[i]? = some a → ∀ {j : Nat}, j < z → ((l.map c).flatten)[i * z + j]? = (c a)[j]?
 | [], i, a, h, j, hj => by simp at h
 | b :: l, 0, a, h, j, hj => by
  simp at h; subst h
  rw [List.map_cons, List.flatten_cons, Nat.zero_mul, Nat.zero_add, List.getElem?_append_left (by rw [hz]; exact hj)]
 | b :: l, i + 1, a, h, j, hj => by
  rw [List.getElem?_cons_succ] at h
  rw [List.map_cons, List.flatten_cons, List.getElem?_append_right (by rw [hz, Nat.add_mul]; omega), hz, show (i + 1) * z + j - z = i * z + j by rw [Nat.add_mul]; omega]
  exact flat_get hz h hj
theorem flat_set (hz : ∀ a, (c a).length = z) : ∀ {l : List α} {i : Nat} {a a' : α} {j : Nat} {p : PV}, l[i]? = some a → j < z → c a' = (c a).set j p → ((l.map c).flatten).set (i * z + j) p = ((l.set i a').map c).flatten
 | [], i, a, a', j, p, h, hj, hc => by simp at h
 | b :: l, 0, a, a', j, p, h, hj, hc => by
  simp at h; subst h
  rw [List.map_cons, List.flatten_cons, List.set_cons_zero, List.map_cons, List.flatten_cons, hc, Nat.zero_mul, Nat.zero_add, List.set_append_left _ _ (by rw [hz]; exact hj)]
 | b :: l, i + 1, a, a', j, p, h, hj, hc => by
  rw [List.getElem?_cons_succ] at h
  rw [List.map_cons, List.flatten_cons, List.set_cons_succ, List.map_cons, List.flatten_cons, List.set_append_right _ _ (by rw [hz, Nat.add_mul]; omega), hz, show (i + 1) * z + j - z = i * z + j by rw [Nat.add_mul]; omega, flat_set hz h hj hc]
theorem setAt_mid (C : List AV) : ∀ (A B vs : List AV), B.length = vs.length → setAt (A ++ (B ++ C)) A.length vs = A ++ (vs ++ C)
 | A, [], [], _ => rfl
 | A, b :: B, v :: vs, h => by
  have e1 : (A ++ (b :: B ++ C)).set A.length v = (A ++ [v]) ++ (B ++ C) := by
   rw [List.set_append_right _ _ (Nat.le_refl _), Nat.sub_self]; simp
  have e2 : A.length + 1 = (A ++ [v]).length := by simp
  rw [setAt, e1, e2, setAt_mid C (A ++ [v]) B vs (by simpa using h)]
  simp
 | A, [], v :: vs, h => by simp at h
 | A, b :: B, [], h => by simp at h
theorem flat_split (l : List α) {i : Nat} {a : α} (h : l[i]? = some a) : (l.map c).flatten.map PV.av = ((l.take i).map c).flatten.map PV.av ++ ((c a).map PV.av ++ ((l.drop (i + 1)).map c).flatten.map PV.av) := by
 have hi := lt_of_get h
 have e : l = l.take i ++ a :: l.drop (i + 1) := by
  rw [List.getElem?_eq_getElem hi] at h
  cases h
  rw [List.getElem_cons_drop hi, List.take_append_drop]
 conv => lhs; rw [e]
 simp
theorem flat_setAt (hz : ∀ a, (c a).length = z) {l : List α} {i : Nat} {a a' : α} (h : l[i]? = some a) : setAt ((l.map c).flatten.map PV.av) (i * z) ((c a').map PV.av) = ((l.set i a').map c).flatten.map PV.av := by
 have hi := lt_of_get h
 have e1 : (l.set i a')[i]? = some a' := List.getElem?_set_self hi
 rw [flat_split l h, flat_split (l.set i a') e1, List.take_set_of_le (Nat.le_refl _), List.drop_set_of_lt (by omega)]
 have e2 : i * z = (((l.take i).map c).flatten.map PV.av).length := by rw [flat_len hz, List.length_take]; congr 1; omega
 rw [e2, setAt_mid _ _ _ _ (by simp [hz])]
theorem o_indexAddrO {t e : TypeId} {x y : Operand} {s b : Nat} {zz : Option Value} {l : List α} {id n mc : Nat} {kk : IntKind} {i : Int} {a : α} (hu : P.underlying t = some (.slice e)) (hti : tinf P e = some (s, b, zz)) (hx : aev fr x = .hs id 0 n mc s)
  (hy : aev fr y = .sc (.int kk i)) (hn : l.length = n) (hi : idx l i = some a) : OpS P ⟨dst, .indexAddr t x y, ty, pos, after, guard⟩ fr H (Det (.pt id (i.toNat * s)) H) := by
 obtain ⟨h0, h1⟩ := idx_lt hi
 have := o_indexAddrH (P := P) (fr := fr) (H := H) (dst := dst) (ty := ty) (pos := pos) (after := after) (guard := guard) hu hti hx hy h0 (by rw [← hn]; exact h1)
 rw [Nat.zero_add] at this
 exact this
theorem o_loadO {t : TypeId} {x : Operand} {q : Nat × Nat × Option Value} {id off j : Nat} {l : List α} {i : Int} {a : α} {p : PV} {r : AV} (hag : aggT P t = some false) (hti : tinf P t = some q) (hx : aev fr x = .pt id off) (ho : off = i.toNat * z + j)
  (hm : H[id]? = some (.cells ((l.map c).flatten.map PV.av))) (hz : ∀ a, (c a).length = z) (hi : idx l i = some a) (hp : (c a)[j]? = some p) (h : AVLe p.av r) : OpS P ⟨dst, .load t x, ty, pos, after, guard⟩ fr H (Det r H) :=
 o_loadP hag hti hx hm (by
  rw [ho, List.getElem?_map, flat_get hz (idx_some hi).2 (by have := lt_of_get hp; rw [hz] at this; exact this), hp]; rfl) h
theorem o_loadOA {t : TypeId} {x : Operand} {s b : Nat} {zz : Option Value} {id off j : Nat} {l : List α} {i : Int} {a : α} {r : AV} (hag : aggT P t = some true) (hti : tinf P t = some (s, b, zz)) (hx : aev fr x = .pt id off) (ho : off = i.toNat * z + j)
  (hm : H[id]? = some (.cells ((l.map c).flatten.map PV.av))) (hz : ∀ a, (c a).length = z) (hi : idx l i = some a) (hj : j + s ≤ z) (h : AVLe (.ag ((((c a).drop j).take s).map PV.av)) r) : OpS P ⟨dst, .load t x, ty, pos, after, guard⟩ fr H (Det r H) := by
 have h1 := (idx_some hi).2
 have hlt := lt_of_get h1
 have hmul := Nat.mul_le_mul_right z (show i.toNat + 1 ≤ l.length by omega)
 rw [Nat.add_mul, Nat.one_mul] at hmul
 refine o_loadPA hag hti hx hm (by rw [flat_len hz, ho]; omega) ?_
 have e2 : i.toNat * z = (((l.take i.toNat).map c).flatten.map PV.av).length := by rw [flat_len hz, List.length_take]; congr 1; omega
 rw [ho, flat_split l h1, e2, ← List.drop_drop, List.drop_left, List.drop_append_of_le_length (by simp [hz]; omega), List.take_append_of_le_length (by simp [hz]; omega), ← List.map_drop, ← List.map_take]
 exact h
theorem OpS.memle {o : Oper} {r : AV} {H1 : Mem} {id : Nat} {cs cs' : List AV} (h : OpS P o fr H (Det r H1)) (hid : H1[id]? = some (.cells cs)) (hl : ALe cs cs') : OpS P o fr H (Det r (H1.set id (.cells cs'))) := fun g w ev h1 h2 =>
 Ls.mono (fun v w' s => by
  obtain ⟨r', H', g', ⟨k1, rfl⟩, hv, hm, he, hn⟩ := s
  exact ⟨r', _, g', ⟨k1, rfl⟩, by rw [List.length_set]; exact hv, hm.le hid hl, he, by rw [List.length_set]; exact hn⟩) (h g w ev h1 h2)
theorem ALe.set {cs : List AV} {v v' : AV} (h : AVLe v v') : ∀ (k : Nat), ALe (cs.set k v) (cs.set k v') := by
 induction cs with
 | nil => intro k; exact trivial
 | cons a cs ih =>
  intro k
  cases k with
  | zero => exact ⟨h, .refl _⟩
  | succ k => exact ⟨.refl _, ih k⟩
theorem o_storeO {t : TypeId} {x y : Operand} {b : Nat} {zz : Option Value} {id off j : Nat} {l m : List α} {i : Int} {a a' : α} {p : PV} {v : AV} {H1 : Mem} (hti : tinf P t = some (1, b, zz)) (hx : aev fr x = .pt id off) (ho : off = i.toNat * z + j) (hy : aev fr y = v)
  (hm : H[id]? = some (.cells ((l.map c).flatten.map PV.av))) (hz : ∀ a, (c a).length = z) (hi : idx l i = some a) (hj : j < z) (hs : v.cells = [v]) (hf : v.flat = true) (hce : v.cellish = true) (hle : AVLe v p.av) (hc : c a' = (c a).set j p)
  (hu : updL l i a' = some m) (hM : H1 = H.set id (.cells ((m.map c).flatten.map PV.av))) :
  OpS P ⟨dst, .store t x y, ty, pos, after, guard⟩ fr H (Det undefA H1) := by
 obtain ⟨_, _, rfl⟩ := updL_some hu
 have h1 := (idx_some hi).2
 have hlt := lt_of_get h1
 have hmul := Nat.mul_le_mul_right z (show i.toNat + 1 ≤ l.length by omega)
 rw [Nat.add_mul, Nat.one_mul] at hmul
 have base := o_store (P := P) (fr := fr) (H := H) (dst := dst) (ty := ty) (pos := pos) (after := after) (guard := guard) (t := t) (x := x) (y := y) (H1 := H.set id (.cells (((l.map c).flatten.map PV.av).set off v))) (v := v) hti hx hy hm (by decide) hf (by rw [hs]; rfl)
  (by rw [hs]; simp [hce]) (by rw [flat_len hz, ho]; omega) (by rw [hs]; rfl) rfl
 have := base.memle (id := id) (cs' := ((l.map c).flatten.map PV.av).set off p.av) (by rw [List.getElem?_set_self (lt_of_get hm)]) (ALe.set hle _)
 rw [List.set_set] at this
 rw [hM]
 have e : ((l.map c).flatten.map PV.av).set off p.av = ((l.set i.toNat a').map c).flatten.map PV.av := by
  rw [← flat_set hz h1 hj hc, ho, List.map_set]
 rw [e] at this
 exact this
theorem o_storeOA {t : TypeId} {x y : Operand} {b : Nat} {zz : Option Value} {id off : Nat} {l m : List α} {i : Int} {a a' : α} {H1 : Mem} (hti : tinf P t = some (z, b, zz)) (hx : aev fr x = .pt id off) (ho : off = i.toNat * z) (h0 : z ≠ 0)
  (hy : (aev fr y).cells = (c a').map PV.av) (hf : (aev fr y).flat = true) (hce : ((c a').map PV.av).all AV.cellish = true)
  (hm : H[id]? = some (.cells ((l.map c).flatten.map PV.av))) (hz : ∀ a, (c a).length = z) (hi : idx l i = some a)
  (hu : updL l i a' = some m) (hM : H1 = H.set id (.cells ((m.map c).flatten.map PV.av))) :
  OpS P ⟨dst, .store t x y, ty, pos, after, guard⟩ fr H (Det undefA H1) := by
 obtain ⟨_, _, rfl⟩ := updL_some hu
 have h1 := (idx_some hi).2
 have hlt := lt_of_get h1
 have hmul := Nat.mul_le_mul_right z (show i.toNat + 1 ≤ l.length by omega)
 rw [Nat.add_mul, Nat.one_mul] at hmul
 exact o_store hti hx rfl hm h0 hf (by rw [hy, List.length_map, hz]) (by rw [hy]; exact hce) (by rw [flat_len hz, ho]; omega) (by rw [hy, ho, flat_setAt hz h1]) hM
theorem mapM_flat (hp : ∀ a, ((c a).map PV.av).mapM AV.pv = some (c a)) (l : List α) : ((l.map c).flatten.map PV.av).mapM AV.pv = some (l.map c).flatten := by
 induction l with
 | nil => rfl
 | cons a l ih => rw [List.map_cons, List.flatten_cons, List.map_append, List.mapM_append, hp, ih]; rfl
theorem chunk_flat (hz : ∀ a, (c a).length = z) (l : List α) : chunk z l.length (((l.map c).flatten.drop 0).take (l.length * z)) = l.map c := by
 rw [List.drop_zero, List.take_of_length_le (by have := flat_len hz l; rw [List.length_map] at this; omega)]
 induction l with
 | nil => rfl
 | cons a l ih => rw [List.length_cons, chunk, List.map_cons, List.flatten_cons, List.take_left' (hz a), List.drop_left' (hz a), ih]
def FrzL (fr : Frm) (id n s : Nat) (rows : List (List PV)) : List (Nat × AV) → Prop
 | [] => True
 | (d, v) :: q => (AVLe (fr d) v ∨ (∃ mc, fr d = .hs id 0 n mc s) ∧ v = .sl s rows .no) ∧ FrzL fr id n s rows q
theorem Reb.frz {N n0 : Nat} {H : Mem} {id n : Nat} {l : List α} {fl : List (Nat × AV)} (hz : ∀ a, (c a).length = z) (hp : ∀ a, ((c a).map PV.av).mapM AV.pv = some (c a)) (hid : H[id]? = some (.cells ((l.map c).flatten.map PV.av))) (hn : l.length = n)
  (h : FrzL fr id n z (l.map c) fl) : Reb N n0 fr (Frm.of fl) H (H.set id .dead) := fun g w tmps hn0 hf hm => by
 subst hn
 obtain ⟨hm1, hg1⟩ := hm.freeze hid
 refine ⟨_, ⟨hf.size, ?_⟩, hm1, ⟨⟨hg1.ro, fun i hi => hg1.mu i (by omega)⟩, fun b _ ho => ⟨ho, rfl⟩, Nat.le_refl _, rfl, rfl, rfl⟩, by simpa using hn0⟩
 intro t
 have hlen : (H.set id Ent.dead).length = H.length := by simp
 rw [hlen]
 have hv := hf.vr t
 generalize tmps.getD t undef = u at hv
 induction fl with
 | nil => exact .any _
 | cons p r ih =>
  obtain ⟨d, v⟩ := p
  obtain ⟨h1, h2⟩ := h
  by_cases e : t = d
  ·subst e
   simp only [Frm.of, if_true]
   rcases h1 with h1 | ⟨⟨mc, h1⟩, rfl⟩
   ·exact h1 _ _ _ (hv.mono hg1 (Nat.le_refl _))
   ·rw [h1] at hv
    generalize hq : l.length = q at hv
    cases hv with
    | hs _ _ _ _ _ cap hidl hll hmc hcap =>
     have := freeze_row (n := H.length) (off := 0) (len := q) (s := z) (cap := cap) hm hid (mapM_flat hp l) (by rw [flat_len hz, hq]; omega) (Nat.le_trans hll hmc)
     rw [← hq, chunk_flat hz] at this
     rw [← hq]; exact this
    | hn _ _ _ a hidl =>
     have : l = [] := List.eq_nil_of_length_eq_zero hq
     subst this
     cases a with
     | none => exact .nil z .no fun t e => by cases e
     | some a => exact VR.sl z [] .no a 0 (fun _ => undef) (.inl rfl) (Nat.le_refl _) (fun e he => by cases he) (fun k p hk => by simp at hk) trivial
  ·simp only [Frm.of, if_neg e]
   exact ih h2
end
theorem o_buildSlice0 {t e : TypeId} {len : Nat} {ps : Array (Nat × Operand)} {s b : Nat} {z : Value} {cs : List AV} {pcs : List PV} {r : AV} (hu : P.underlying t = some (.slice e)) (hti : tinf P e = some (s, b, some z)) (hz : (zeroCs z).length = s)
  (hn : len * s ≤ 16777216) (hf : afill (fun i => some (i * s, s)) (azeros (zeroCs z) len) (ps.toList.map fun x => (x.1, aev fr x.2)) = some cs) (hp : cs.mapM AV.pv = some pcs) (hr : AVLe (.sl s (chunk s len pcs) .ex) r) :
  OpS P ⟨dst, .buildSlice t len ps, ty, pos, after, guard⟩ fr H (Det r H) := opS_buildSlice 0 (by simp only [aBuildSlice, hu, hti, hf, hp]; exact ⟨hz, hn, hr, rfl⟩)
theorem o_buildSlice2 {t e : TypeId} {len : Nat} {ps : Array (Nat × Operand)} {s b : Nat} {z : Value} {cs : List AV} {H1 : Mem} (hu : P.underlying t = some (.slice e)) (hti : tinf P e = some (s, b, some z)) (hz : (zeroCs z).length = s)
  (hn : len * s ≤ 16777216) (hf : afill (fun i => some (i * s, s)) (azeros (zeroCs z) len) (ps.toList.map fun x => (x.1, aev fr x.2)) = some cs) (hM : H1 = H ++ [.cells cs]) :
  OpS P ⟨dst, .buildSlice t len ps, ty, pos, after, guard⟩ fr H (Det (.hs H.length 0 len len s) H1) := opS_buildSlice 2 (by simp only [aBuildSlice, hu, hti, hf]; exact ⟨hz, hn, .refl _, hM.symm⟩)
theorem o_build {t : TypeId} {ps : Array (Nat × Operand)} {fs : Array Field} {s b : Nat} {z : Value} {pl : Nat → Option (Nat × Nat)} {cs : List AV} {r : AV} (hti : tinf P t = some (s, b, some z)) (hu : P.underlying t = some (.struct fs))
  (hpl : ∀ i, fplace P fs i = pl i) (hall : fs.all (fun f => (tinf P f.type).isSome) = true) (hf : afill pl (zeroCs z) (ps.toList.map fun x => (x.1, aev fr x.2)) = some cs) (hr : AVLe (.ag cs) r) :
  OpS P ⟨dst, .build t ps, ty, pos, after, guard⟩ fr H (Det r H) := opS_build (by
 have : fplace P fs = pl := funext hpl
 simp only [aBuild, hti, hu, this, hf]
 exact ⟨hall, hr, rfl⟩)
theorem o_call {f : FuncId} {xs : Array Operand} {ats : Array TypeId} {args : List AV} {r0 r : AV} {H1 : Mem} (hc : ACalls P f args H fun r' H' => r' = r0 ∧ H' = H1) (ha : ALe (xs.toList.map (aev fr)) args) (hr : AVLe r0 r) :
  OpS P ⟨dst, .call ⟨.value (.func f), xs, ats⟩, ty, pos, after, guard⟩ fr H (Det r H1) := opS_call ((ACalls.le ha hc).mono fun _ _ ⟨e1, e2⟩ => by subst e1 e2; exact ⟨hr, rfl⟩)
theorem o_callv {f : FuncId} {t : Nat} {first caps : List AV} {xs : Array Operand} {ats : Array TypeId} {args : List AV} {r0 r : AV} {H1 : Mem} (ht : fr t = .fn (.func f) first caps) (hc : ACalls P f args H fun r' H' => r' = r0 ∧ H' = H1)
  (ha : ALe (first ++ xs.toList.map (aev fr) ++ caps) args) (hr : AVLe r0 r) :
  OpS P ⟨dst, .call ⟨.value (.tmp t), xs, ats⟩, ty, pos, after, guard⟩ fr H (Det r H1) := opS_callv ht ((ACalls.le ha hc).mono fun _ _ ⟨e1, e2⟩ => by subst e1 e2; exact ⟨hr, rfl⟩)
end
theorem reb_done {P : Program} {fn : Func} {N n0 : Nat} {fr fr0 : Frm} {M M0 : Mem} {R : AV → Mem → Prop} (h : Reb N n0 fr fr0 M M0) (h2 : ∃ fr1 H', Reb N n0 fr0 fr1 M0 H' ∧ resS P fn fr1 H' R) :
  ∃ fr1 H', Reb N n0 fr fr1 M H' ∧ resS P fn fr1 H' R := by
 obtain ⟨fr1, H', a, b⟩ := h2
 exact ⟨fr1, H', h.trans a, b⟩
theorem done_tmp {P : Program} {fn : Func} {N n0 : Nat} {t : Tmp} {fr : Frm} {M H1 : Mem} {r0 : AV} (hr : fn.results = #[.tmp t]) (h : AVLe (fr t) r0) (hp : H1 <+: M) :
  ∃ fr1 H', Reb N n0 fr fr1 M H' ∧ resS P fn fr1 H' fun r M => AVLe r r0 ∧ H1 <+: M := fin_here (resS_tmp hr ⟨h, hp⟩)
theorem done_none {P : Program} {fn : Func} {N n0 : Nat} {fr : Frm} {M H1 : Mem} (hr : fn.results = #[]) (hp : H1 <+: M) :
  ∃ fr1 H', Reb N n0 fr fr1 M H' ∧ resS P fn fr1 H' fun r M => AVLe r (.tp []) ∧ H1 <+: M := fin_here (resS_none hr ⟨.refl _, hp⟩)
theorem done_list {P : Program} {fn : Func} {N n0 : Nat} {rs : List ResultVar} {avs : List AV} {fr : Frm} {M H1 : Mem} {r0 : AV} (hr : fn.results = rs.toArray) (hl : avs.length ≠ 1) (ha : aRess P fr M rs avs) (h : AVLe (.tp avs) r0) (hp : H1 <+: M) :
  ∃ fr1 H', Reb N n0 fr fr1 M H' ∧ resS P fn fr1 H' fun r M => AVLe r r0 ∧ H1 <+: M := fin_here (resS_list hr hl ha ⟨h, hp⟩)
theorem done_one {P : Program} {fn : Func} {N n0 : Nat} {rv : ResultVar} {r : AV} {fr : Frm} {M H1 : Mem} {r0 : AV} (hr : fn.results = #[rv]) (ha : aRess P fr M [rv] [r]) (h : AVLe r r0) (hp : H1 <+: M) :
  ∃ fr1 H', Reb N n0 fr fr1 M H' ∧ resS P fn fr1 H' fun r M => AVLe r r0 ∧ H1 <+: M := fin_here (resS_one hr ha ⟨h, hp⟩)
section
variable {P : Program} {fr : Frm} {M : Mem} {rs : List ResultVar} {asl : List AV} {r : AV}
theorem ar_nil : aRess P fr M [] [] := trivial
theorem ar_tmp {t : Nat} (h : fr t = r) (h2 : aRess P fr M rs asl) : aRess P fr M (.tmp t :: rs) (r :: asl) := ⟨h, h2⟩
theorem ar_cellA {p id off s b : Nat} {ty : TypeId} {z : Option Value} {cs : List AV} (hag : aggT P ty = some true) (hti : tinf P ty = some (s, b, z)) (hx : fr p = .pt id off) (hm : M[id]? = some (.cells cs)) (hl : off + s ≤ cs.length)
  (hc : .ag ((cs.drop off).take s) = r) (h2 : aRess P fr M rs asl) : aRess P fr M (.cell p ty :: rs) (r :: asl) := ⟨by simp only [aLoad, hag, hti, hx, hm]; exact ⟨hl, hc⟩, h2⟩
end
end Go.Proofs.Ytgdbmgnfaefhoaa.Am
namespace Go.Proofs.Ytgdbmgnfaefhoaa.Am
open Go
set_option linter.unusedVariables false
section
variable {P : Program} {fr : Frm} {H : Mem} {dst : Option Nat} {ty : TypeId} {pos : String} {after : Array Edge} {guard : Option (Nat × Bool)}
theorem OpsS_nilT {ops : Array Oper} {rest : List Oper} {K : Frm → Mem → Prop} {t t' e : TypeId} {x y : Operand} {z : Nat} {es : List (List PV)} {k : Tk} (hg : agd ops fr ⟨dst, .binOp .eql t x y t', ty, pos, after, guard⟩ = some true)
  (hu : P.underlying t = some (.slice e)) (hx : aev fr x = .sl z es k) (hy : aev fr y = .sc (.slice none 0 0)) (h : ∀ b : Bool, (b = true → es = []) → OpsS P ops rest (fr.put dst (.sc (.bool b))) H K) :
  OpsS P ops (⟨dst, .binOp .eql t x y t', ty, pos, after, guard⟩ :: rest) fr H K := by
 simp only [OpsS, hg]
 exact opS_isNil hx hy (by unfold aNil; rw [hu]; exact fun b hb => h b hb)
theorem o_bytesC {s e : TypeId} {x : Operand} {id n mc : Nat} {l : List Int} {cs : List AV} {H1 : Mem} (hs : P.underlying s = some (.slice e)) (he : P.underlying e = some (.int .u8)) (hx : aev fr x = .hs id 0 n mc 1) (hn : l.length = n) (h0 : n ≠ 0)
  (hm : H[id]? = some (.cells cs)) (hc : cs = (l.map c_u8).flatten.map PV.av) (hM : H1 = H.set id .dead) :
  OpS P ⟨dst, .convert s s x, ty, pos, after, guard⟩ fr H (Det (.sl 1 (l.map c_u8) .no) H1) := opS_bytes 0 (by
 subst hc hn
 simp only [aBytes, hs, he, hx, hm]
 have hlen : ((l.map c_u8).flatten.map PV.av).length = l.length := by rw [flat_len (z := 1) (fun _ => rfl)]; omega
 refine ⟨trivial, trivial, h0, by rw [hlen]; omega, ?_⟩
 rw [mapM_flat (fun _ => rfl)]
 have e2 : chunk 1 l.length (((l.map c_u8).flatten.drop 0).take (l.length * 1)) = l.map c_u8 := chunk_flat (c := c_u8) (z := 1) (fun _ => rfl) l
 simp only [e2]
 exact ⟨.refl _, hM.symm⟩)
end
theorem Bd.wide {n m : Nat} (h : n ≤ m) {a : AV} (hb : Bd n a) : Bd m a := by
 induction hb with
 | any => exact .any
 | sc v => exact .sc v
 | sl z es k hk => exact .sl z es k fun t e => Nat.lt_of_lt_of_le (hk t e) h
 | ag cs _ ih => exact .ag cs ih
 | tp cs _ ih => exact .tp cs ih
 | pt id off hid => exact .pt id off (by omega)
 | ep cs => exact .ep cs
 | hs id off len mc s hid => exact .hs id off len mc s (by omega)
 | mp id hid => exact .mp id (by omega)
 | fn f fs cs _ _ i1 i2 => exact .fn f fs cs i1 i2
theorem Bd.emono {n m : Nat} (h : n ≤ m) {e : Ent} (hb : e.Bd n) : e.Bd m := by
 cases e with
 | dead => trivial
 | tok => trivial
 | cells cs => exact fun i c hc => (hb i c hc).wide h
 | map es => exact fun k a hi => (hb k a hi).wide h
 | mpi es ents clock => exact fun k a hi => (hb k a hi).wide h
 | itr mid since seen stepped => exact Nat.lt_of_lt_of_le hb h
 | lit vs => trivial
 | tr cs => exact fun i c hc => (hb i c hc).mono fun _ ha => ha.wide h
theorem MBd.new {H : Mem} {cs : List AV} (hH : MBd H) (hc : cs.all AV.clo1 = true) : MBd (H ++ [.cells cs]) := fun id e he => by
 rcases get_snoc he with he | ⟨rfl, rfl⟩
 ·exact Bd.emono (by simp) (hH id e he)
 ·exact fun i c hc' => AV.clo1_bd (List.all_eq_true.1 hc c (List.mem_of_getElem? hc'))
theorem clo1_av (p : PV) : p.av.clo1 = true := by cases p <;> rfl
theorem MBd.newO {H : Mem} {ps : List PV} (hH : MBd H) : MBd (H ++ [.cells (ps.map PV.av)]) := hH.new (by rw [List.all_map, List.all_eq_true]; exact fun p _ => clo1_av p)
theorem MBd.setO {H : Mem} {p : Nat} {ps : List PV} (hH : MBd H) : MBd (H.set p (.cells (ps.map PV.av))) := hH.set (by rw [List.all_map, List.all_eq_true]; exact fun p _ => clo1_av p)
theorem AVLe.hsn {α : Type} {e n z : Nat} {l : List α} (h : l.length = n) : AVLe (.hs e 0 n n z) (.hs e 0 l.length l.length z) := by subst h; exact .refl _
theorem Bd_newO {n mc z : Nat} (H : Mem) (x : Ent) : Bd (H ++ [x]).length (.hs H.length 0 n mc z) := .hs _ _ _ _ _ (by simp)
theorem AVLt.hn (n z : Nat) : AVLt n (.sc (.slice none 0 0)) (.hs n 0 0 0 z) := fun _ _ _ hn h => by cases h; exact .hn n 0 z none hn
theorem Reb.none {N n0 : Nat} {fr : Frm} {H : Mem} {l : List (Nat × AV)} (h : FtL H.length fr l) : Reb N n0 fr (Frm.of l) H (H ++ [.cells []]) := fun g w tmps hl hf hm => by
 obtain ⟨m1, m2⟩ := hm.push_none
 refine ⟨_, ⟨hf.size, ?_⟩, m1, ⟨⟨m2.gle.ro, fun i hi => m2.gle.mu i (by omega)⟩, m2.un, m2.size, m2.os, m2.tape, m2.output⟩, by simp; omega⟩
 intro t
 have hfr := (hf.mono m2.gle (by simp : H.length ≤ (H ++ [Ent.cells []]).length)).vr t
 generalize tmps.getD t undef = u at hfr
 induction l with
 | nil => exact .any _
 | cons p r ih =>
  obtain ⟨d, v⟩ := p
  by_cases e : t = d
  ·subst e
   simp only [Frm.of, if_true]
   exact h.1 _ _ _ (by simp) hfr
  ·simp only [Frm.of, if_neg e]
   exact ih h.2
theorem Reb.tokM {N : Nat} {fr : Frm} {H M : Mem} {e t z : Nat} {es : List (List PV)} (hb : MBd H) (hp : H <+: M) (hk : M[e]? = some .tok) (hlo : H.length ≤ e) (ht : fr t = .sl z es (.tk e)) :
  Reb N H.length fr (Frm.of [(t, .sl z es (.tk H.length))]) M (H ++ [.tok]) := by
 obtain ⟨tl, rfl⟩ := hp
 obtain ⟨k, rfl⟩ : ∃ k, e = H.length + k := ⟨e - H.length, by omega⟩
 refine Reb.tok (Nat.le_refl _) hb (t := k) ?_ ⟨?_, trivial⟩
 ·rw [getElem?_tok] at hk; exact hk
 ·rw [ht]; exact Rn.tok
theorem Reb.ownM {N n mc : Nat} {fr : Frm} {H M : Mem} {e t z : Nat} {ps : List PV} (hb : MBd H) (hp : H <+: M) (hk : M[e]? = some (.cells (ps.map PV.av))) (hlo : H.length ≤ e) (ht : fr t = .hs e 0 n mc z) :
  Reb N H.length fr (Frm.of [(t, .hs H.length 0 n mc z)]) M (H ++ [.cells (ps.map PV.av)]) := by
 obtain ⟨tl, rfl⟩ := hp
 obtain ⟨k, rfl⟩ : ∃ k, e = H.length + k := ⟨e - H.length, by omega⟩
 refine Reb.keep [H.length + k] (Nat.le_refl _) hb rfl (by simp) (fun r h => by simp at h; omega) (fun j r e' h h' => ?_) (Rn.of (l := [(t, .hs H.length 0 n mc z)]) fun p hp => ?_)
 ·cases j with
  | zero =>
   simp at h h'; subst h h'
   refine ⟨_, hk, .cells _ _ rfl fun i c c' h1 h2 => ?_⟩
   rw [h1] at h2; cases h2
   rw [List.getElem?_map] at h1
   cases hx : ps[i]? with
   | none => rw [hx] at h1; cases h1
   | some p =>
    rw [hx] at h1; cases h1
    cases p with
    | sc v => exact .sc v
    | sl z es => exact .no z es .no
  | succ j => simp at h
 ·simp at hp; subst hp
  rw [ht]
  have := Rn.hs (τ := tau H.length [H.length + k]) (m := (H ++ [Ent.cells (ps.map PV.av)]).length) H.length 0 n mc z (by simp)
  rw [tau_hi] at this
  exact this
theorem MBd.newT {H : Mem} (hH : MBd H) : MBd (H ++ [.tok]) := fun id e he => by
 rcases get_snoc he with he | ⟨rfl, rfl⟩
 ·exact Bd.emono (by simp) (hH id e he)
 ·trivial
theorem Bd_newT {z : Nat} (H : Mem) (x : Ent) (es : List (List PV)) : Bd (H ++ [x]).length (.sl z es (.tk H.length)) := .sl _ _ _ fun t e => by cases e; simp
theorem done_reb {P : Program} {fn : Func} {N n0 : Nat} {t : Tmp} {fr : Frm} {M M1 : Mem} {r0 : AV} (hr : fn.results = #[.tmp t]) (h : Reb N n0 fr (Frm.of [(t, r0)]) M M1) :
  ∃ fr1 H', Reb N n0 fr fr1 M H' ∧ resS P fn fr1 H' fun r M => AVLe r r0 ∧ M1 <+: M := ⟨_, _, h, resS_tmp hr ⟨by simp only [Frm.of, if_true]; exact .refl _, List.prefix_refl _⟩⟩
end Go.Proofs.Ytgdbmgnfaefhoaa.Am
namespace Go.Proofs.Ytgdbmgnfaefhoaa.Am
open Go
def mkz (b : Nat) (n : Int) : Option Unit := if 0 ≤ n ∧ n.toNat * b ≤ 140737488355328 ∧ n ≤ 9223372036854775807 then some () else none
theorem mkz_some {b : Nat} {n : Int} {u : Unit} (h : mkz b n = some u) : 0 ≤ n ∧ n.toNat * b ≤ 140737488355328 ∧ n ≤ 9223372036854775807 := by
 unfold mkz at h
 split at h
 ·assumption
 ·cases h
def slcH (n : Nat) (lo hi : Int) : Option (Nat × Nat) := if 0 ≤ lo ∧ lo ≤ hi ∧ hi ≤ n then some (lo.toNat, hi.toNat - lo.toNat) else none
theorem slcH_some {n o k : Nat} {lo hi : Int} (h : slcH n lo hi = some (o, k)) : 0 ≤ lo ∧ lo ≤ hi ∧ hi ≤ n ∧ o = lo.toNat ∧ k = hi.toNat - lo.toNat := by
 unfold slcH at h
 split at h
 ·rename_i hc; cases h; exact ⟨hc.1, hc.2.1, hc.2.2, rfl, rfl⟩
 ·cases h
theorem slcH_le {n o k : Nat} {lo hi : Int} (h : slcH n lo hi = some (o, k)) : o + k ≤ n := by obtain ⟨h0, h1, h2, rfl, rfl⟩ := slcH_some h; omega
def mget {β : Type} (l : List (Int × β)) (k : Int) : Option β := (l.find? fun y => y.1 == k).map (·.2)
def mset {β : Type} (l : List (Int × β)) (k : Int) (v : β) : List (Int × β) := if l.any (·.1 == k) then l.map fun y => if y.1 == k then (k, v) else y else l ++ [(k, v)]
def fillL {α : Type} (l : List α) (o k : Nat) (a : α) : List α := l.take o ++ List.replicate k a ++ l.drop (o + k)
theorem fillL_len {α : Type} {l : List α} {o k : Nat} {a : α} (h : o + k ≤ l.length) : (fillL l o k a).length = l.length := by unfold fillL; simp; omega
def idxP {α : Type} (l : List α) (o n : Nat) (i : Int) : Option α := if 0 ≤ i ∧ i < n then idx l ((o : Int) + i) else none
theorem idxP_some {α : Type} {l : List α} {o n : Nat} {i : Int} {a : α} (h : idxP l o n i = some a) : 0 ≤ i ∧ i < n ∧ idx l ((o : Int) + i) = some a := by
 unfold idxP at h
 split at h
 ·rename_i hc; exact ⟨hc.1, hc.2, h⟩
 ·cases h
end Go.Proofs.Ytgdbmgnfaefhoaa.Am
namespace Go.Proofs.Ytgdbmgnfaefhoaa.Am
open Go
set_option linter.unusedVariables false
section
variable {P : Program} {fr : Frm} {H : Mem} {dst : Option Nat} {ty : TypeId} {pos : String} {after : Array Edge} {guard : Option (Nat × Bool)}
theorem b_cap {a : Array TypeId} {t : TypeId} {c : Array Bool} {v : Array Value} : builtin .cap a t c v = (do pure (.value (← Builtin.cap_ a t v))) := rfl
theorem o_capN {t e : TypeId} {x : Operand} (hu : P.underlying t = some (.slice e)) (hx : aev fr x = .sc (.slice none 0 0)) :
  OpS P ⟨dst, .call ⟨.builtin .cap, #[x], #[t]⟩, ty, pos, after, guard⟩ fr H (Det (.sc (.int .i64 0)) H) := fun g w ev hop hm => by
 have hv := hop x (by simp [Op.operands, Call.operands])
 rw [hx] at hv
 have hv := VR_sc hv
 have : (execOp ev ⟨dst, .call ⟨.builtin .cap, #[x], #[t]⟩, ty, pos, after, guard⟩).run P w = .ok (.value (.int .i64 0)) w := by
  rw [execOp_b, b_cap]
  simp [hv, Builtin.cap_, run_underlying hu, goInt]
 rw [this]
 exact sr_here hm (.sc _) ⟨.refl _, rfl⟩
theorem o_appZ {t u e : TypeId} {x y : Operand} {s b : Nat} {z : Value} {k kn : IntKind} {n : Int} {q : Unit} {H1 : Mem} (hu : P.underlying t = some (.slice e)) (hn : P.underlying u = some (.int kn)) (hti : tinf P e = some (s, b, some z)) (hz : (zeroCs z).length = s) (hs : 0 < s)
  (hx : aev fr x = .sc (.slice none 0 0)) (hy : aev fr y = .sc (.int k n)) (h0 : decide (n > 0) = true) (hq : mkz b n = some q) (hM : H1 = H ++ [.cells []]) :
  OpS P ⟨dst, .call ⟨.builtin .append, #[x, y], #[t, u]⟩, ty, pos, after, guard⟩ fr H (Det (.hs H.length 0 n.toNat n.toNat s) H1) := fun g w ev hop hm => by
 have hv := hop x (by simp [Op.operands, Call.operands])
 have hw := hop y (by simp [Op.operands, Call.operands])
 rw [hx] at hv
 rw [hy] at hw
 have hv := VR_sc hv
 have hw := VR_sc hw
 obtain ⟨i, hi, i1, i2, i3⟩ := tinf_info hti
 obtain ⟨q0, q1, q2⟩ := mkz_some hq
 have h0 : n > 0 := by simpa using h0
 have en : n = (n.toNat : Int) := by omega
 have hzs : z.cells.size = s := by rw [← hz]; simp [zeroCs]
 have hr := Lib.run_append_nil_zeros (P := P) w t u ty e i z k kn hu hn hi i3 n.toNat (by omega) (by omega) (by omega) (by rw [i2]; omega)
 have hcap : n.toNat ≤ grownCap w n.toNat 0 e := by unfold grownCap Question.cut; exact Nat.le_add_right _ _
 have : (execOp ev ⟨dst, .call ⟨.builtin .append, #[x, y], #[t, u]⟩, ty, pos, after, guard⟩).run P w = .ok (.value (.slice (some ⟨w.heap.size, 0, none⟩) n.toNat (grownCap w n.toNat 0 e)))
   (w.drew.alloc (.cells (Builtin.zeroCells z.cells n.toNat ++ Builtin.zeroCells z.cells (grownCap w n.toNat 0 e - n.toNat)) e)) := by
  rw [execOp_b, b_append]
  simp only [List.map_toArray, List.map_cons, List.map_nil, Sem.run_bind, hv, hw]
  rw [← en] at hr
  rw [hr]
  rfl
 rw [this]
 have hp : Push w (w.drew.alloc (.cells (Builtin.zeroCells z.cells n.toNat ++ Builtin.zeroCells z.cells (grownCap w n.toNat 0 e - n.toNat)) e)) (Builtin.zeroCells z.cells n.toNat ++ Builtin.zeroCells z.cells (grownCap w n.toNat 0 e - n.toNat)) e (0, 0) := ⟨rfl, rfl, rfl, rfl⟩
 refine new_hs (z := s) hm hp (fun o _ => by simp) (acs := []) (Nat.zero_le _) (fun i a h => by simp at h) hcap ?_ ⟨.refl _, hM.symm⟩
 rw [Array.size_append, size_zeroCells, size_zeroCells, hzs, ← Nat.add_mul]
 exact Nat.le_of_eq (by congr 1; omega)
theorem o_sliceH0 {t e : TypeId} {x y : Operand} {s b id n m : Nat} {z : Option Value} {k : IntKind} (hu : P.underlying t = some (.slice e)) (hti : tinf P e = some (s, b, z)) (hx : aev fr x = .hs id 0 n m s) (hy : aev fr y = .sc (.int k 0)) (hn : 0 < m) :
  OpS P ⟨dst, .slice t x none (some y) none, ty, pos, after, guard⟩ fr H (Det (.hs id 0 0 m s) H) := by
 refine opS_slice (l := none) (h := some (k, 0)) (m := none) rfl (by simp only [bnd, hy]) rfl ?_
 refine ⟨fun h => (by cases h), ?_⟩
 simp only [hu, hti, hx]
 refine ⟨trivial, Int.le_refl _, Int.le_refl _, by simp [bd0], Int.le_refl _, ?_⟩
 simp only [bd0]
 exact ⟨by simpa using AVLe.refl _, rfl⟩
end
end Go.Proofs.Ytgdbmgnfaefhoaa.Am
namespace Go.Proofs.Ytgdbmgnfaefhoaa.Am
open Go
set_option linter.unusedVariables false
theorem MR.fewer {g : Gh} {H : Mem} {w : World} {id : Nat} {cs cs' : List AV} (hm : MR g H w) (hid : H[id]? = some (.cells cs)) (hl : cs' <+: cs) : MR g (H.set id (.cells cs')) w := by
 have hlen : (H.set id (Ent.cells cs')).length = H.length := by simp
 refine ⟨hm.ro, fun id' e he => ?_, fun b i hb => by rw [hlen]; exact hm.ow b i hb⟩
 rw [hlen]
 rcases get_set he with ⟨hne, he⟩ | ⟨rfl, rfl, _⟩
 ·exact hm.ent id' e he
 ·rcases hm.ent _ _ hid with ⟨e1, e2⟩ | ⟨h1, h2, h3, h4, h5⟩
  ·exact .inl ⟨by rw [e1] at hl; exact List.prefix_nil.1 hl, e2⟩
  ·refine .inr ⟨h1, h2, by have := hl.length_le; omega, h4, fun k c hc => h5 k c ?_⟩
   obtain ⟨tl, rfl⟩ := hl
   rw [List.getElem?_append_left (lt_of_get hc)]; exact hc
theorem AVLe.hsc {id k n z : Nat} (h : k ≤ n) : AVLe (.hs id 0 k n z) (.hs id 0 k k z) := fun g m v hv => by
 generalize hq : n = q at hv
 cases hv with
 | hs _ _ _ _ _ cap hid hl hmc hcap => exact .hs id 0 k k z cap hid (Nat.le_refl _) (by omega) hcap
 | hn _ _ _ a hid => exact .hn id 0 z a hid
theorem done_cut {α : Type} {c : α → List PV} {P : Program} {fn : Func} {N n0 : Nat} {t : Tmp} {fr : Frm} {M H1 : Mem} {id k n o z : Nat} {l : List α} (hr : fn.results = #[.tmp t]) (hid : M[id]? = some (.cells ((l.map c).flatten.map PV.av))) (ht : fr t = .hs id (o * z) k (n - o) z) (hn : l.length = n) (hk : k ≤ n ∧ o = 0)
  (hp : H1.set id (.cells ((l.map c).flatten.map PV.av)) <+: M) (hlt : id < H1.length) :
  ∃ fr1 H', Reb N n0 fr fr1 M H' ∧ resS P fn fr1 H' fun r M' => AVLe r (.hs id 0 (l.take k).length (l.take k).length z) ∧ H1.set id (.cells (((l.take k).map c).flatten.map PV.av)) <+: M' := by
 obtain ⟨hk, rfl⟩ := hk
 rw [Nat.zero_mul, Nat.sub_zero] at ht
 refine ⟨fr, M.set id (.cells (((l.take k).map c).flatten.map PV.av)), fun g w tmps hn0 hf hm => ?_, resS_tmp hr ⟨?_, ?_⟩⟩
 ·refine ⟨g, by rw [List.length_set]; exact hf, hm.fewer hid ?_, .refl _ _ _, by rw [List.length_set]; exact hn0⟩
  refine ⟨((l.drop k).map c).flatten.map PV.av, ?_⟩
  rw [← List.map_append, ← List.flatten_append, ← List.map_append, List.take_append_drop]
 ·rw [ht, List.length_take, hn, Nat.min_eq_left hk]
  exact .hsc hk
 ·have := pre_lo (i := id) (x := .cells (((l.take k).map c).flatten.map PV.av)) hp (by rw [List.length_set]; exact hlt)
  rw [List.set_set] at this
  exact this
section
variable {α : Type} {c : α → List PV} {z : Nat} {P : Program} {fr : Frm} {H : Mem} {dst : Option Nat} {ty : TypeId} {pos : String} {after : Array Edge} {guard : Option (Nat × Bool)}
theorem o_sliceHO {t e : TypeId} {x : Operand} {lo hi : Option Operand} {s b id n m k o : Nat} {zz : Option Value} {lo' hi' : Option (IntKind × Int)} (hu : P.underlying t = some (.slice e)) (hti : tinf P e = some (s, b, zz)) (hx : aev fr x = .hs id 0 n m s)
  (hl : bnd fr lo = some lo') (hh : bnd fr hi = some hi') (hs : slcH m (bd0 lo' 0) (bd0 hi' n) = some (o, k)) : OpS P ⟨dst, .slice t x lo hi none, ty, pos, after, guard⟩ fr H (Det (.hs id (o * s) k (m - o) s) H) := by
 obtain ⟨h0, h1, h2, rfl, rfl⟩ := slcH_some hs
 refine opS_slice (m := none) hl hh rfl ?_
 refine ⟨fun h => (by cases h), ?_⟩
 simp only [hu, hti, hx]
 refine ⟨trivial, h0, h1, h2, Int.le_refl _, ?_⟩
 rw [Nat.zero_add]
 exact ⟨.refl _, rfl⟩
theorem o_indexAddrP {t e : TypeId} {x y : Operand} {s b : Nat} {zz : Option Value} {l : List α} {id n m o : Nat} {kk : IntKind} {i : Int} {a : α} (hu : P.underlying t = some (.slice e)) (hti : tinf P e = some (s, b, zz)) (hx : aev fr x = .hs id (o * s) n m s)
  (hy : aev fr y = .sc (.int kk i)) (hi : idxP l o n i = some a) : OpS P ⟨dst, .indexAddr t x y, ty, pos, after, guard⟩ fr H (Det (.pt id ((o + i.toNat) * s)) H) := by
 obtain ⟨h0, h1, _⟩ := idxP_some hi
 have := o_indexAddrH (P := P) (fr := fr) (H := H) (dst := dst) (ty := ty) (pos := pos) (after := after) (guard := guard) hu hti hx hy h0 h1
 rw [← Nat.add_mul] at this
 exact this
end
end Go.Proofs.Ytgdbmgnfaefhoaa.Am
namespace Go.Proofs.Ytgdbmgnfaefhoaa.Am
open Go
set_option linter.unusedVariables false
def RebM (H H1 : Mem) : Prop := H.length ≤ H1.length ∧ ∀ (g : Gh) (w : World), MR g H w → ∃ g1, MR g1 H1 w ∧ Ev H.length g w g1 w
theorem RebM.refl (H : Mem) : RebM H H := ⟨Nat.le_refl _, fun g w h => ⟨g, h, .refl _ _ _⟩⟩
theorem RebM.trans {H H1 H2 : Mem} (h : RebM H H1) (h' : RebM H1 H2) : RebM H H2 := ⟨Nat.le_trans h.1 h'.1, fun g w hm => by
 obtain ⟨g1, m1, e1⟩ := h.2 g w hm
 obtain ⟨g2, m2, e2⟩ := h'.2 g1 w m1
 exact ⟨g2, m2, e1.trans e2 h.1⟩⟩
theorem Ev.less {n n0 : Nat} {g g' : Gh} {w w' : World} (h : Ev n g w g' w') (hn : n0 ≤ n) : Ev n0 g w g' w' := ⟨⟨h.gle.ro, fun i hi => h.gle.mu i (by omega)⟩, h.un, h.size, h.os, h.tape, h.output⟩
theorem EntR.tr_of_cells {g : Gh} {n : Nat} {w : World} {id : Nat} {cs : List AV} (h : EntR g n w id (.cells cs)) : EntR g n w id (.tr (cs.map .av)) := by
 rcases h with ⟨h1, h2⟩ | ⟨h1, h2, h3, h4, h5⟩
 ·exact .inl ⟨by rw [h1]; rfl, h2⟩
 refine .inr ⟨fun b => if b = (g.mu id).b then some [] else none, fun b p hp => ?_, by simp, h2, by simpa using h3, h4, fun k c hc => ?_⟩
 ·simp only at hp
  split at hp
  ·rename_i e; rw [e]; exact h1
  ·cases hp
 ·rw [List.getElem?_map] at hc
  cases hk : cs[k]? with
  | none => rw [hk] at hc; cases hc
  | some a =>
   rw [hk] at hc; cases hc
   obtain ⟨v, hv, hr⟩ := h5 k a hk
   exact ⟨v, hv, .av _ _ _ hr⟩
theorem EntR.cells_of_tr {g : Gh} {n : Nat} {w : World} {id : Nat} {cs : List AV} (h : EntR g n w id (.tr (cs.map .av))) : EntR g n w id (.cells cs) := by
 rcases h with ⟨h1, h2⟩ | ⟨ow, h0, h1, h2, h3, h4, h5⟩
 ·exact .inl ⟨by simpa using h1, h2⟩
 refine .inr ⟨h0 _ _ h1, h2, by simpa using h3, h4, fun k c hc => ?_⟩
 obtain ⟨v, hv, hr⟩ := h5 k (.av c) (by rw [List.getElem?_map, hc]; rfl)
 cases hr with
 | av _ _ _ hr => exact ⟨v, hv, hr⟩
theorem MR.retell {g : Gh} {H : Mem} {w : World} {id : Nat} {e : Ent} (hm : MR g H w) (h : EntR g H.length w id e) : MR g (H.set id e) w := by
 have hlen : (H.set id e).length = H.length := by simp
 refine ⟨hm.ro, fun id' x hx => ?_, fun b i hb => by rw [hlen]; exact hm.ow b i hb⟩
 rw [hlen]
 rcases get_set hx with ⟨hne, hx⟩ | ⟨rfl, rfl, _⟩
 ·exact hm.ent id' x hx
 ·exact h
theorem RebM.tell {H : Mem} {id : Nat} {e : Ent} (h : ∀ g w, MR g H w → EntR g H.length w id e) : RebM H (H.set id e) := ⟨by simp, fun g w hm => ⟨g, hm.retell (h g w hm), .refl _ _ _⟩⟩
theorem RebM.tr {H : Mem} {p : Nat} {cs : List AV} {ts : List Tr} (hp : H[p]? = some (.cells cs)) (ht : ts = cs.map .av) : RebM H (H.set p (.tr ts)) := .tell fun g w hm => by subst ht; exact (hm.ent p _ hp).tr_of_cells
theorem RebM.cells {H : Mem} {p : Nat} {cs : List AV} {ts : List Tr} (hp : H[p]? = some (.tr ts)) (ht : ts = cs.map .av) : RebM H (H.set p (.cells cs)) := .tell fun g w hm => by subst ht; exact (hm.ent p _ hp).cells_of_tr
theorem TrR.cells {g : Gh} {n : Nat} {w : World} {q : Nat} {ds : List Tr} (h : EntR g n w q (.tr ds)) (hne : ds ≠ [] ∨ (g.mu q).o ≤ (g.mu q).l) : ∃ ow : Nat → Option (List Nat), (∀ b p, ow b = some p → g.ow b = some q) ∧ ow (g.mu q).b = some [] ∧ Blk w (g.mu q).b (g.mu q).l ∧
   (g.mu q).o + ds.length ≤ (g.mu q).l ∧ (∀ o, g.ro (g.mu q).b o = none) ∧ ∃ f : Nat → Value, (∀ (k : Nat) c, ds[k]? = some c → w.cell? ⟨(g.mu q).b, (g.mu q).o + k, none⟩ = some (f k)) ∧ ∀ (k : Nat) c, ds[k]? = some c → TrR g n w ow [k] c (f k) := by
 rcases h with ⟨h1, h2⟩ | ⟨ow, h0, h1, h2, h3, h4, h5⟩
 ·rcases hne with h | h
  ·exact absurd h1 h
  ·omega
 refine ⟨ow, h0, h1, h2, h3, h4, fun k => (w.cell? ⟨(g.mu q).b, (g.mu q).o + k, none⟩).getD undef, fun k c hc => ?_, fun k c hc => ?_⟩
 ·obtain ⟨v, hv, _⟩ := h5 k c hc; simp only [hv]; rfl
 ·obtain ⟨v, hv, hr⟩ := h5 k c hc; simp only [hv]; exact hr
def under (k : Nat) : Option (List Nat) → Option (List Nat)
 | some (j :: r) => if j = k then some r else none
 | _ => none
theorem under_self (k : Nat) (r : List Nat) : under k (some (k :: r)) = some r := by simp [under]
theorem TrR.out {g g' : Gh} {n n' k j : Nat} {w : World} {ow : Nat → Option (List Nat)} {t : Tr} {v : Value} (h : TrR g n w ow [k, j] t v) (hg : Gle n g g') (hn : n ≤ n') (hro : ∀ b r, ow b = some (k :: r) → ∀ o, g'.ro b o = g.ro b o) :
  TrR g' n' w (fun b => under k (ow b)) [j] t v := h.move hg hn [j] fun b r hb => ⟨by simp only [hb]; exact under_self k _, hro b _ hb, rfl⟩
abbrev Tr.Clo (t : Tr) : Prop := t.All fun a => a.clo1 = true
theorem Clo.row {z n : Nat} (ps : List PV) : (Tr.hs z n ((ps.map PV.av).map .av)).Clo := .hs _ _ _ fun i c hc => by
 rw [List.map_map, List.getElem?_map] at hc
 cases h : ps[i]? with
 | none => rw [h] at hc; cases hc
 | some p => rw [h] at hc; cases hc; exact .av _ (clo1_av p)
theorem Clo.nil : ∀ c ∈ ([] : List Tr), c.Clo := fun c h => by cases h
theorem Clo.cons {t : Tr} {l : List Tr} (h : t.Clo) (hl : ∀ c ∈ l, c.Clo) : ∀ c ∈ t :: l, c.Clo := fun c hc => by
 rcases List.mem_cons.1 hc with rfl | hc
 ·exact h
 ·exact hl c hc
theorem Clo.pt {l : List Tr} (hl : ∀ c ∈ l, c.Clo) : (Tr.pt l).Clo := .pt _ fun i c hc => hl c (List.mem_of_getElem? hc)
theorem Clo.rows {z n : Nat} {l : List Tr} (hl : ∀ c ∈ l, c.Clo) : (Tr.hs z n l).Clo := .hs _ _ _ fun i c hc => hl c (List.mem_of_getElem? hc)
theorem Clo.map {α : Type} {l : List α} {k : α → Value} {v : α → AV} (h : ∀ x, (v x).clo1 = true) : (Tr.mp (l.map fun x => (k x, v x))).Clo := .mp _ fun k' a hi => by
 obtain ⟨x, _, hx⟩ := List.mem_map.1 hi
 cases hx; exact h x
end Go.Proofs.Ytgdbmgnfaefhoaa.Am
namespace Go.Proofs.Ytgdbmgnfaefhoaa.Am
open Go
set_option linter.unusedVariables false
section
variable {α : Type} {c : α → List PV} {z : Nat} {P : Program} {fr : Frm} {H : Mem} {dst : Option Nat} {ty : TypeId} {pos : String} {after : Array Edge} {guard : Option (Nat × Bool)}
theorem flat_part (hz : ∀ a, (c a).length = z) (l : List α) (o k : Nat) : ((((l.map c).flatten.map PV.av).drop (o * z)).take (k * z)) = (((l.drop o).take k).map c).flatten.map PV.av := by
 have hd : ((l.map c).flatten.map PV.av).drop (o * z) = (((l.drop o).map c).flatten.map PV.av) := by
  rcases Nat.le_total o l.length with ho | ho
  ·have el : o * z = (((l.take o).map c).flatten.map PV.av).length := by rw [flat_len hz, List.length_take, Nat.min_eq_left ho]
   conv => lhs; rw [el]; arg 2; rw [← List.take_append_drop o l]
   rw [List.map_append, List.flatten_append, List.map_append, List.drop_left]
  ·rw [List.drop_eq_nil_of_le (by rw [flat_len hz]; exact Nat.mul_le_mul_right _ ho), List.drop_eq_nil_of_le ho]; rfl
 rw [hd]
 generalize l.drop o = l
 rcases Nat.le_total k l.length with ho | ho
 ·have el : k * z = (((l.take k).map c).flatten.map PV.av).length := by rw [flat_len hz, List.length_take, Nat.min_eq_left ho]
  conv => lhs; rw [el]; arg 2; rw [← List.take_append_drop k l]
  rw [List.map_append, List.flatten_append, List.map_append, List.take_left]
 ·rw [List.take_of_length_le (by rw [flat_len hz]; exact Nat.mul_le_mul_right _ ho), List.take_of_length_le ho]
theorem srcA_sl {l : List α} {k : Tk} {x : AV} (h : x = .sl z (l.map c) k) : srcA z x H = some (l.length, (l.map c).flatten.map PV.av) := by subst h; simp [srcA]
theorem all_cellish (hcell : ∀ a, ((c a).map PV.av).all AV.cellish = true) (l : List α) : ((l.map c).flatten.map PV.av).all AV.cellish = true := by
 rw [List.all_eq_true]
 intro v hv
 obtain ⟨p, hp, rfl⟩ := List.mem_map.1 hv
 obtain ⟨e, he, hpe⟩ := List.mem_flatten.1 hp
 obtain ⟨a, ha, rfl⟩ := List.mem_map.1 he
 exact List.all_eq_true.1 (hcell a) _ (List.mem_map.2 ⟨p, hpe, rfl⟩)
theorem o_appH {t u e : TypeId} {x y : Operand} {b id o n mc : Nat} {zz : Value} {l l2 m : List α} {H1 : Mem} (hz : ∀ a, (c a).length = z) (hcell : ∀ a, ((c a).map PV.av).all AV.cellish = true) (hx : aev fr x = .hs id (o * z) n mc z)
  (hid : H[id]? = some (.cells ((l.map c).flatten.map PV.av))) (hn : o + n ≤ l.length) (hy : srcA z (aev fr y) H = some (l2.length, (l2.map c).flatten.map PV.av))
  (hu : P.underlying t = some (.slice e)) (hti : tinf P e = some (z, b, some zz)) (hzc : (zeroCs zz).length = z) (hss : sliceStr P u = true) (happ : app b ((l.drop o).take n) l2 = some m) (hM : H1 = H.set id .dead ++ [.cells ((m.map c).flatten.map PV.av)]) :
  OpS P ⟨dst, .call ⟨.builtin .append, #[x, y], #[t, u]⟩, ty, pos, after, guard⟩ fr H (Det (.hs H.length 0 m.length m.length z) H1) := opS_appendH (by
 obtain ⟨h1, h2, rfl⟩ := app_some happ
 have hl : ((l.drop o).take n).length = n := by rw [List.length_take, List.length_drop]; omega
 rw [hl] at h1 h2
 simp only [aAppendH, hss, hu, hti, hy, hx, hid, true_and]
 refine ⟨hzc, all_cellish hcell l2, h1, h2, by rw [flat_len hz, ← Nat.add_mul]; exact Nat.mul_le_mul_right _ hn, ?_⟩
 rw [flat_part hz, ← List.map_append, ← List.flatten_append, ← List.map_append, hM, List.length_append, hl]
 exact ⟨.refl _, rfl⟩)
end
theorem RebM.mem {H : Mem} {id : Nat} {cs cs' : List AV} (hid : H[id]? = some (.cells cs)) (hl : ALe cs cs') : RebM H (H.set id (.cells cs')) := ⟨by simp, fun g w hm => ⟨g, hm.le hid hl, .refl _ _ _⟩⟩
theorem OpS.post {P : Program} {o : Oper} {fr : Frm} {H H1 H2 : Mem} {r : AV} (h : OpS P o fr H (Det r H1)) (rb : RebM H1 H2) : OpS P o fr H (Det r H2) := fun g w ev h1 h2 =>
 Ls.mono (fun v w' s => by
  obtain ⟨r', H', g', ⟨k1, k2⟩, hv, hm, he, hn⟩ := s
  subst k2
  obtain ⟨g1, m1, e1⟩ := rb.2 g' w' hm
  exact ⟨r', _, g1, ⟨k1, rfl⟩, hv.mono e1.gle rb.1, m1, he.trans (e1.less hn) (Nat.le_refl _), Nat.le_trans hn rb.1⟩) (h g w ev h1 h2)
theorem ALe.app : ∀ {a a' b b' : List AV}, ALe a a' → ALe b b' → ALe (a ++ b) (a' ++ b')
 | [], [], _, _, _, h => h
 | _ :: _, _ :: _, _, _, h, h' => ⟨h.1, ALe.app h.2 h'⟩
 | [], _ :: _, _, _, h, _ => h.elim
 | _ :: _, [], _, _, h, _ => h.elim
theorem ALe.zeros {zc : List AV} {cs : List PV} (h : ALe zc (cs.map PV.av)) : ∀ n, ALe (azeros zc n) ((List.replicate n cs).flatten.map PV.av)
 | 0 => trivial
 | n + 1 => by
  rw [azeros, List.replicate_succ, List.flatten_cons, List.map_append]
  exact h.app (ALe.zeros h n)
section
variable {α : Type} {c : α → List PV} {z : Nat} {P : Program} {fr : Frm} {H : Mem} {dst : Option Nat} {ty : TypeId} {pos : String} {after : Array Edge} {guard : Option (Nat × Bool)}
theorem o_nilOwn {o : Oper} {H1 : Mem} (h : OpS P o fr H (Det (.sc (.slice none 0 0)) H)) (hM : H1 = H ++ [.cells []]) : OpS P o fr H (Det (.hs H.length 0 0 0 z) H1) := fun g w ev h1 h2 =>
 Ls.mono (fun v w' s => by
  obtain ⟨r', H', g', ⟨k1, k2⟩, hv, hm, he, hn⟩ := s
  subst k2
  have hv2 := VR_sc (k1 _ _ _ hv)
  subst hv2
  obtain ⟨m1, m2⟩ := hm.push_none
  exact ⟨_, _, _, ⟨.refl _, hM.symm⟩, .hn H'.length 0 z none (by simp), m1, he.trans m2 (Nat.le_refl _), by simp⟩) (h g w ev h1 h2)
theorem o_clearO2 {t e : TypeId} {x : Operand} {b id m k o : Nat} {zz : Value} {l : List α} {a : α} {H1 : Mem} (hu : P.underlying t = some (.slice e)) (hti : tinf P e = some (z, b, some zz)) (hzc : (zeroCs zz).length = z) (hce : (azeros (zeroCs zz) 1).all AV.cellish = true) (hzz : ALe (zeroCs zz) ((c a).map PV.av))
  (hz : ∀ a, (c a).length = z) (hx : aev fr x = .hs id (o * z) k m z) (hid : H[id]? = some (.cells ((l.map c).flatten.map PV.av))) (hn : o + k ≤ l.length) (hM : H1 = H.set id (.cells (((fillL l o k a).map c).flatten.map PV.av))) :
  OpS P ⟨dst, .call ⟨.builtin .clear, #[x], #[t]⟩, ty, pos, after, guard⟩ fr H (Det (.tp []) H1) := by
 have h1 : OpS P ⟨dst, .call ⟨.builtin .clear, #[x], #[t]⟩, ty, pos, after, guard⟩ fr H (Det (.tp []) (H.set id (.cells (setAt ((l.map c).flatten.map PV.av) (o * z) (azeros (zeroCs zz) k))))) := opS_clear (by
  simp only [aClear, hu, hti, hx, hid]
  exact ⟨hzc, hce, trivial, by rw [flat_len hz, ← Nat.add_mul]; exact Nat.mul_le_mul_right _ hn, .refl _, rfl⟩)
 have e : l = l.take o ++ ((l.drop o).take k ++ l.drop (o + k)) := by rw [← List.drop_drop, List.take_append_drop, List.take_append_drop]
 have el : o * z = (((l.take o).map c).flatten.map PV.av).length := by rw [flat_len hz, List.length_take, Nat.min_eq_left (by omega)]
 have es : setAt ((l.map c).flatten.map PV.av) (o * z) (azeros (zeroCs zz) k) = ((l.take o).map c).flatten.map PV.av ++ (azeros (zeroCs zz) k ++ ((l.drop (o + k)).map c).flatten.map PV.av) := by
  conv => lhs; arg 1; rw [e]
  simp only [List.map_append, List.flatten_append, List.append_assoc]
  conv => lhs; rw [el]
  rw [setAt_mid]
  rw [flat_len hz, azeros_length, hzc, List.length_take, List.length_drop]
  congr 1
  omega
 have hr : RebM (H.set id (.cells (setAt ((l.map c).flatten.map PV.av) (o * z) (azeros (zeroCs zz) k)))) ((H.set id (.cells (setAt ((l.map c).flatten.map PV.av) (o * z) (azeros (zeroCs zz) k)))).set id (.cells (((fillL l o k a).map c).flatten.map PV.av))) := by
  refine .mem (List.getElem?_set_self (lt_of_get hid)) ?_
  rw [es]
  have er : (List.replicate k a).map c = List.replicate k (c a) := by rw [List.map_replicate]
  unfold fillL
  simp only [List.map_append, List.flatten_append, List.append_assoc, er]
  exact (ALe.refl _).app ((ALe.zeros hzz k).app (.refl _))
 have := h1.post hr
 rw [List.set_set] at this
 rw [hM]; exact this
end
theorem Rn.clo1 {τ : Nat → Nat} {m : Nat} {a : AV} (h : a.clo1 = true) : Rn τ m a a := by
 unfold AV.clo1 at h
 split at h
 ·exact .any _
 ·exact .sc _
 ·exact .no _ _ _
 ·exact .ex _ _
 ·exact .ep _
 ·cases h
end Go.Proofs.Ytgdbmgnfaefhoaa.Am
namespace Go.Proofs.Ytgdbmgnfaefhoaa.Am
open Go
open Go.MapKept (Stamped IsKey)
set_option linter.unusedVariables false
section
variable {β : Type} {kd : IntKind} {v : β → AV}
abbrev ent (kd : IntKind) (v : β → AV) (l : List (Int × β)) : List (Value × AV) := l.map fun y => (.int kd y.1, v y.2)
theorem ent_keys {l : List (Int × β)} : (ent kd v l).Pairwise (fun x y => x.1 ≠ y.1) ↔ l.Pairwise fun x y => x.1 ≠ y.1 := by
 rw [List.pairwise_map]
 constructor <;> intro h <;> refine h.imp fun hab e => hab ?_
 ·rw [e]
 ·injection e
theorem mget_some {l : List (Int × β)} {k : Int} {b : β} (h : mget l k = some b) : (k, b) ∈ l := by
 unfold mget at h
 cases hf : l.find? fun y => y.1 == k with
 | none => rw [hf] at h; cases h
 | some y =>
  rw [hf] at h
  obtain ⟨y1, y2⟩ := y
  simp only [Option.map_some, Option.some.injEq] at h
  have := List.find?_some hf
  simp at this
  subst this h
  exact List.mem_of_find?_eq_some hf
theorem mget_none {l : List (Int × β)} {k : Int} (h : mget l k = none) : ∀ b, (k, b) ∉ l := fun b hb => by
 unfold mget at h
 rw [Option.map_eq_none_iff, List.find?_eq_none] at h
 exact h _ hb (by simp)
theorem mset_mem {l : List (Int × β)} {k : Int} {b : β} {y : Int × β} : y ∈ mset l k b ↔ y = (k, b) ∨ (y ∈ l ∧ y.1 ≠ k) := by
 unfold mset
 split
 ·rename_i ha
  rw [List.any_eq_true] at ha
  obtain ⟨z, hz, hzk⟩ := ha
  rw [List.mem_map]
  constructor
  ·rintro ⟨x, hx, rfl⟩
   split
   ·exact .inl rfl
   ·rename_i hne; exact .inr ⟨hx, by simpa using hne⟩
  ·rintro (rfl | ⟨h1, h2⟩)
   ·exact ⟨z, hz, by rw [if_pos hzk]⟩
   ·exact ⟨y, h1, by rw [if_neg (by simpa using h2)]⟩
 ·rename_i ha
  rw [List.mem_append, List.mem_singleton]
  constructor
  ·rintro (h | h)
   ·refine .inr ⟨h, fun e => ha ?_⟩
    rw [List.any_eq_true]; exact ⟨y, h, by simpa using e⟩
   ·exact .inl h
  ·rintro (h | h)
   ·exact .inr h
   ·exact .inl h.1
theorem mset_keys {l : List (Int × β)} (hk : l.Pairwise fun x y => x.1 ≠ y.1) (k : Int) (b : β) : (mset l k b).Pairwise fun x y => x.1 ≠ y.1 := by
 unfold mset
 split
 ·rw [List.pairwise_map]
  refine hk.imp fun {x y} h => ?_
  by_cases hx : x.1 = k <;> by_cases hy : y.1 = k
  ·exact absurd (hx.trans hy.symm) h
  ·simp [hx, hy]; exact Ne.symm hy
  ·simp [hx, hy]
  ·simp [hx, hy]; exact h
 ·rename_i ha
  rw [List.pairwise_append]
  refine ⟨hk, List.pairwise_singleton _ _, fun x hx y hy => ?_⟩
  rw [List.mem_singleton] at hy; subst hy
  intro e
  refine ha ?_
  rw [List.any_eq_true]; exact ⟨x, hx, by simpa using e⟩
theorem mset_length_in {l : List (Int × β)} {k : Int} {b c : β} (h : (k, c) ∈ l) : (mset l k b).length = l.length := by
 unfold mset
 rw [if_pos (by rw [List.any_eq_true]; exact ⟨_, h, by simp⟩), List.length_map]
theorem mset_length_out {l : List (Int × β)} {k : Int} {b : β} (h : mget l k = none) : (mset l k b).length = l.length + 1 := by
 unfold mset
 rw [if_neg, List.length_append, List.length_singleton]
 rw [List.any_eq_true]
 rintro ⟨y, hy, e⟩
 have : y.1 = k := by simpa using e
 exact mget_none h y.2 (by rw [← this]; exact hy)
theorem push_toList {ents : Array MapEntry} {x y : MapEntry} : y ∈ (ents.push x).toList ↔ y ∈ ents.toList ∨ y = x := by simp
theorem MapR.push {g : Gh} {n : Nat} {l : List (Int × β)} {ents : Array MapEntry} {clock : Nat} (hm : MapR g n (ent kd v l) ents clock) {k : Int} (hk : ∀ x ∈ ents.toList, x.key ≠ .int kd k) (hg : mget l k = none) {b : β} {u : Value} (hv : VR g n (v b) u) :
  MapR g n (ent kd v (mset l k b)) (ents.push ⟨.int kd k, u, clock⟩) (clock + 1) := by
 refine ⟨MapKept.stamped_push hm.st hk, ?_, ent_keys.2 (mset_keys (ent_keys.1 hm.keys) k b), fun k' a ha => ?_, fun x hx => ?_⟩
 ·rw [Array.size_push, List.length_map, mset_length_out hg, hm.size, List.length_map]
 ·obtain ⟨y, hy, hya⟩ := List.mem_map.1 ha
  cases hya
  rcases mset_mem.1 hy with rfl | ⟨h1, h2⟩
  ·exact ⟨_, push_toList.2 (.inr rfl), rfl, hv⟩
  ·obtain ⟨x, x1, x2, x3⟩ := hm.get _ _ (List.mem_map.2 ⟨y, h1, rfl⟩)
   exact ⟨x, push_toList.2 (.inl x1), x2, x3⟩
 ·rcases push_toList.1 hx with hx | rfl
  ·obtain ⟨a, ha⟩ := hm.all x hx
   obtain ⟨y, hy, hya⟩ := List.mem_map.1 ha
   refine ⟨a, List.mem_map.2 ⟨y, mset_mem.2 (.inr ⟨hy, fun e => hk x hx ?_⟩), hya⟩⟩
   have := (congrArg Prod.fst hya).symm
   simp only at this
   rw [this, e]
  ·exact ⟨v b, List.mem_map.2 ⟨(k, b), mset_mem.2 (.inl rfl), rfl⟩⟩
theorem MapR.modify {g : Gh} {n : Nat} {l : List (Int × β)} {ents : Array MapEntry} {clock : Nat} (hm : MapR g n (ent kd v l) ents clock) {k : Int} {j : Nat} {e : MapEntry} (hj : ents[j]? = some e) (he : e.key = .int kd k) {b c : β} (hg : mget l k = some c) {u : Value} (hv : VR g n (v b) u) :
  MapR g n (ent kd v (mset l k b)) (ents.modify j fun e' => { e' with key := .int kd k, val := u }) clock := by
 have hkeyf : ∀ e', ents[j]? = some e' → ({ e' with key := .int kd k, val := u } : MapEntry).key = e'.key := fun e' h => by rw [hj] at h; cases h; exact he.symm
 have hn := (MapKept.stamped_iff _ _).1 hm.st
 have hej : e ∈ ents.toList := Array.mem_toList_iff.2 (Array.mem_of_getElem? hj)
 have hmem : ∀ x, x ∈ (ents.modify j fun e' => { e' with key := .int kd k, val := u }).toList ↔ x = { e with key := .int kd k, val := u } ∨ (x ∈ ents.toList ∧ x.key ≠ .int kd k) := fun x => by
  rw [Array.mem_toList_iff, Array.mem_iff_getElem?]
  constructor
  ·rintro ⟨i, hi⟩
   rw [Array.getElem?_modify] at hi
   by_cases hij : j = i
   ·subst hij
    rw [if_pos rfl, hj] at hi
    simp only [Option.map_some, Option.some.injEq] at hi
    exact .inl hi.symm
   ·rw [if_neg hij] at hi
    refine .inr ⟨Array.mem_toList_iff.2 (Array.mem_of_getElem? hi), fun e2 => hij ?_⟩
    have h1 : ents.toList[j]? = some e := by simpa using hj
    have h2 : ents.toList[i]? = some x := by simpa using hi
    have hp := List.pairwise_iff_getElem.1 hn.2.2
    have l1 := lt_of_get h1
    have l2 := lt_of_get h2
    rw [List.getElem?_eq_getElem l1] at h1
    rw [List.getElem?_eq_getElem l2] at h2
    have k1 := congrArg MapEntry.key (Option.some.inj h1)
    have k2 := congrArg MapEntry.key (Option.some.inj h2)
    rcases Nat.lt_trichotomy j i with h3 | h3 | h3
    ·exact absurd (k1.trans (he.trans (e2.symm.trans k2.symm))) (hp _ _ l1 l2 h3)
    ·exact h3
    ·exact absurd (k2.trans (e2.trans (he.symm.trans k1.symm))) (hp _ _ l2 l1 h3)
  ·rintro (rfl | ⟨h1, h2⟩)
   ·exact ⟨j, by rw [Array.getElem?_modify, if_pos rfl, hj]; rfl⟩
   ·obtain ⟨i, hi⟩ := Array.mem_iff_getElem?.1 (Array.mem_toList_iff.1 h1)
    refine ⟨i, ?_⟩
    rw [Array.getElem?_modify, if_neg]
    ·exact hi
    ·intro e2; subst e2; rw [hj] at hi; cases hi; exact h2 he
 refine ⟨MapKept.stamped_modify hm.st _ _ (fun _ _ => rfl) (fun e' _ h => hkeyf e' h), ?_, ent_keys.2 (mset_keys (ent_keys.1 hm.keys) k b), fun k' a ha => ?_, fun x hx => ?_⟩
 ·rw [Array.size_modify, List.length_map, mset_length_in (mget_some hg), hm.size, List.length_map]
 ·obtain ⟨y, hy, hya⟩ := List.mem_map.1 ha
  cases hya
  rcases mset_mem.1 hy with rfl | ⟨h1, h2⟩
  ·exact ⟨_, (hmem _).2 (.inl rfl), rfl, hv⟩
  ·obtain ⟨x, x1, x2, x3⟩ := hm.get _ _ (List.mem_map.2 ⟨y, h1, rfl⟩)
   exact ⟨x, (hmem _).2 (.inr ⟨x1, fun e2 => h2 (by rw [x2] at e2; injection e2)⟩), x2, x3⟩
 ·rcases (hmem x).1 hx with rfl | ⟨h1, h2⟩
  ·exact ⟨v b, List.mem_map.2 ⟨(k, b), mset_mem.2 (.inl rfl), rfl⟩⟩
  ·obtain ⟨a, ha⟩ := hm.all x h1
   obtain ⟨y, hy, hya⟩ := List.mem_map.1 ha
   refine ⟨a, List.mem_map.2 ⟨y, mset_mem.2 (.inr ⟨hy, fun e => h2 ?_⟩), hya⟩⟩
   have := (congrArg Prod.fst hya).symm
   simp only at this
   rw [this, e]
theorem MapR.nil (g : Gh) (n : Nat) : MapR g n [] #[] 0 := ⟨MapKept.stamped_empty 0, rfl, .nil, (fun k a h => by cases h), (fun x h => by simp at h)⟩
end
section
variable {P : Program} {fr : Frm} {H : Mem} {dst : Option Nat} {ty : TypeId} {pos : String} {after : Array Edge} {guard : Option (Nat × Bool)}
variable {β : Type} {kd : IntKind} {v : β → AV}
end
end Go.Proofs.Ytgdbmgnfaefhoaa.Am
namespace Go.Proofs.Ytgdbmgnfaefhoaa.Am
open Go
open Go.ChangeMaps (setBlock)
open Go.MapKept (Stamped IsKey)
set_option linter.unusedVariables false
structure MapP (es : List (Value × AV)) (ents : Array MapEntry) (clock : Nat) : Prop where
 st : Stamped ents clock
 keys : es.Pairwise fun x y => x.1 ≠ y.1
 key : ∀ x, x ∈ ents.toList → ∃ a, (x.key, a) ∈ es
 ent : ∀ k a, (k, a) ∈ es → ∃ x, x ∈ ents.toList ∧ x.key = k
theorem MapR.p {g : Gh} {n : Nat} {es : List (Value × AV)} {ents : Array MapEntry} {clock : Nat} (h : MapR g n es ents clock) : MapP es ents clock :=
 ⟨h.st, h.keys, h.all, fun k a ha => let ⟨x, x1, x2, _⟩ := h.get k a ha; ⟨x, x1, x2⟩⟩
section
variable {P : Program} {fr : Frm} {H : Mem} {dst : Option Nat} {ty : TypeId} {pos : String} {after : Array Edge} {guard : Option (Nat × Bool)}
end
section
variable {β : Type}
end
end Go.Proofs.Ytgdbmgnfaefhoaa.Am
namespace Go.Proofs.Ytgdbmgnfaefhoaa.Am
open Go
set_option linter.unusedVariables false
section
variable {P : Program} {fr : Frm} {H : Mem} {dst : Option Nat} {ty : TypeId} {pos : String} {after : Array Edge} {guard : Option (Nat × Bool)}
end
end Go.Proofs.Ytgdbmgnfaefhoaa.Am
namespace Go.Proofs.Ytgdbmgnfaefhoaa.Am
open Go
set_option linter.unusedVariables false
section
variable {P : Program} {fr : Frm} {H : Mem} {K : AV → Mem → Prop} {dst : Option Nat} {ty : TypeId} {pos : String} {after : Array Edge} {guard : Option (Nat × Bool)}
end
end Go.Proofs.Ytgdbmgnfaefhoaa.Am
namespace Go.Proofs.Ytgdbmgnfaefhoaa.Am
open Go
set_option linter.unusedVariables false
section
variable {P : Program} {fr : Frm} {H : Mem} {K : AV → Mem → Prop} {dst : Option Nat} {ty : TypeId} {pos : String} {after : Array Edge} {guard : Option (Nat × Bool)}
end
end Go.Proofs.Ytgdbmgnfaefhoaa.Am
namespace Go.Proofs.Ytgdbmgnfaefhoaa.Am
open Go
abbrev kI (n : Int) : AV := .sc (.int .i64 n)
abbrev kY (n : Int) : AV := .sc (.int .u8 n)
abbrev kU (n : Int) : AV := .sc (.int .u64 n)
abbrev kB (b : Bool) : AV := .sc (.bool b)
abbrev w64 (n : Int) : Int := IntKind.wrap .i64 n
theorem eqM {M M1 : Mem} {e : Nat} {x : Ent} (hM : M1 = M) (h : M[e]? = some x) : M1[e]? = some x := hM ▸ h
theorem eqP {H M M1 : Mem} (hM : M1 = M) (h : H <+: M) : H <+: M1 := hM ▸ h
theorem rf {a : AV} : AVLe a a := .refl a
theorem sI {α : Type} {a b : α} (h : some a = some b) : a = b := Option.some.inj h
theorem sz (n : Nat) : n + 1 ≠ 0 := Nat.succ_ne_zero n
theorem nM (x : Mem) : ∃ z, z = x := ⟨x, rfl⟩
theorem nE (x : Nat) : ∃ z, z = x := ⟨x, rfl⟩
theorem loE {H M : Mem} {e : Nat} (he : e = M.length) (hp : H <+: M) : H.length ≤ e := by rw [he]; exact pre_len hp
theorem neE {M : Mem} {e e2 : Nat} {x : Ent} (he : e2 = M.length) (f : M[e]? = some x) : e ≠ e2 := by rw [he]; exact Nat.ne_of_lt (lt_of_get f)
theorem nwE {M M1 : Mem} {e : Nat} {x : Ent} (hM : M1 = M ++ [x]) (he : e = M.length) : M1[e]? = some x := by rw [hM, he]; exact get_new
section
variable {P : Program} {ops : Array Oper} {o : Oper} {rest : List Oper} {fr : Frm} {H : Mem} {K : Frm → Mem → Prop} {J : Mem → Prop} {T : Bool} {B : Mem} {cs : List Nat}
theorem OD (r : AV) (H1 : Mem) (hg : agd ops fr o = some true) (h : OpS P o fr H (Det r H1)) (h2 : OpsS P ops rest (fr.put o.dst r) H1 K) : OpsS P ops (o :: rest) fr H K := OpsS_det r H1 hg h h2
theorem DD0 (r : AV) (hg : agd ops fr o = some true) (h : ∀ H0 : Mem, OpS P o fr H0 (Det r H0)) (h2 : DRun P J T ops cs rest (fr.put o.dst r) B H K) : DRun P J T ops (0 :: cs) (o :: rest) fr B H K := DRun_det0 r hg h h2
theorem DD4 (r : AV) (hg : agd ops fr o = some true) (h : ∀ H0 : Mem, J H0 → OpS P o fr H0 (Det r H0)) (h2 : DRun P J T ops cs rest (fr.put o.dst r) B H K) : DRun P J T ops (0 :: cs) (o :: rest) fr B H K := DRun_det4 r hg h h2
theorem DD1 (r : AV) (hg : agd ops fr o = some true) (h : ∀ H0 : Mem, B <+: H0 → OpS P o fr H0 (Det r H0)) (h2 : DRun P J T ops cs rest (fr.put o.dst r) B H K) : DRun P J T ops (1 :: cs) (o :: rest) fr B H K := DRun_det1 r hg h h2
theorem DD2 (r : AV) (H1 : Mem) (hg : agd ops fr o = some true) (h : OpS P o fr H (Det r H1)) (hJ : J H1) (h2 : DRun P J T ops cs rest (fr.put o.dst r) H1 H1 K) : DRun P J T ops (2 :: cs) (o :: rest) fr B H K := DRun_det2 r H1 hg h hJ h2
theorem DD3 (r : AV) (H1 : Mem) (hg : agd ops fr o = some true) (h : OpS P o fr H (Det r H1)) (hp : H <+: H1) (hJ : J H1) (h2 : DRun P J T ops cs rest (fr.put o.dst r) B H1 K) : DRun P J T ops (3 :: cs) (o :: rest) fr B H K := DRun_det3 r H1 hg h hp hJ h2
end
section
variable {P : Program} {ops : Array Oper} {rest : List Oper} {fr : Frm} {H : Mem} {K : Frm → Mem → Prop} {dst : Option Nat} {ty : TypeId} {pos : String} {after : Array Edge} {guard : Option (Nat × Bool)}
end
end Go.Proofs.Ytgdbmgnfaefhoaa.Am
namespace Go.Proofs.Ytgdbmgnfaefhoaa.Am
open Go
set_option linter.unusedVariables false
theorem execOp_same {ρ : Operand → Value} {o o' : Oper} (h1 : o'.dst = o.dst) (h2 : o'.op = o.op) (h3 : o'.type = o.type) (h4 : o'.pos = o.pos) : execOp ρ o' = execOp ρ o := by
 obtain ⟨d, x, t, ps, a, g⟩ := o
 obtain ⟨d', x', t', ps', a', g'⟩ := o'
 simp only at h1 h2 h3 h4
 subst h1 h2 h3 h4
 rfl
theorem wpOp_sim {P : Program} {Q : Exit → Act → World → Prop} {l l' : List Oper} {i j : Nat} {o o' : Oper} (ho : l[i]? = some o) (g1 : l'[j]? = some o') (g2 : o'.dst = o.dst) (g3 : o'.op = o.op) (g4 : o'.type = o.type) (g5 : o'.pos = o.pos) {a : Act} {w : World}
  (g6 : Region.wanted o' (yielded l'.toArray a.tmps) = Region.wanted o (yielded l.toArray a.tmps)) {K K' : Act → World → Prop} (hK : ∀ a w, K' a w → K a w) (hw : wpOp P l'.toArray Q j K' a w) : wpOp P l.toArray Q i K a w := by
 unfold wpOp at hw ⊢
 have e1 : l.toArray[i]? = some o := by simpa using ho
 have e2 : l'.toArray[j]? = some o' := by simpa using g1
 rw [e1]
 rw [e2] at hw
 simp only at hw ⊢
 rw [g6] at hw
 have ex : ∀ ρ, execOp ρ o' = execOp ρ o := fun ρ => execOp_same g2 g3 g4 g5
 split
 ·rename_i hwt
  rw [if_pos hwt] at hw
  rcases hw with hw | hw
  ·left
   have hw2 := Oper.wp_mono hK hw
   unfold Oper.wp at hw2 ⊢
   rw [ex] at hw2
   unfold Oper.upon at hw2 ⊢
   rw [g2] at hw2
   exact hw2
  ·right
   refine ⟨?_, hw.2⟩
   have := hw.1
   unfold Oper.asks at this ⊢
   rw [ex] at this
   exact this
 ·rename_i hwt
  rw [if_neg hwt] at hw
  rw [← g2]
  exact hK _ _ hw
theorem wpAny_sim {P : Program} {Q : Exit → Act → World → Prop} {l l' : List Oper} (hlen : l'.length = l.length) (σ : Nat → Nat) (hσ : ∀ i, σ (σ i) = i) (C : Array Bool → Prop) (hC : ∀ (x : Array Bool) i, C x → C (x.setIfInBounds i true))
  (hop : ∀ (i : Nat) o, l[i]? = some o → ∃ o', l'[σ i]? = some o' ∧ o'.dst = o.dst ∧ o'.op = o.op ∧ o'.type = o.type ∧ o'.pos = o.pos ∧ ∀ tm, Region.wanted o' (yielded l'.toArray tm) = Region.wanted o (yielded l.toArray tm))
  (hrd : ∀ x x' : Array Bool, C x → (∀ i, x'.getD i false = x.getD (σ i) false) → x.size = l.length → x'.size = l.length → ∀ i, i ∈ Region.ready .any l.toArray x ↔ σ i ∈ Region.ready .any l'.toArray x') :
  ∀ (fuel : Nat) (x x' : Array Bool) (a : Act) (w : World), C x → (∀ i, x'.getD i false = x.getD (σ i) false) → x.size = l.length → x'.size = l.length → wpAny P .any l'.toArray Q fuel x' a w → wpAny P .any l.toArray Q fuel x a w := by
 have hnil : ∀ x x' : Array Bool, C x → (∀ i, x'.getD i false = x.getD (σ i) false) → x.size = l.length → x'.size = l.length → (Region.ready .any l.toArray x = [] ↔ Region.ready .any l'.toArray x' = []) := fun x x' h1 h2 h3 h4 => by
  constructor
  ·intro h
   apply List.eq_nil_iff_forall_not_mem.2
   intro j hj
   have := (hrd x x' h1 h2 h3 h4 (σ j)).2 (by rw [hσ]; exact hj)
   rw [h] at this; cases this
  ·intro h
   apply List.eq_nil_iff_forall_not_mem.2
   intro j hj
   have := (hrd x x' h1 h2 h3 h4 j).1 hj
   rw [h] at this; cases this
 intro fuel
 induction fuel with
 | zero =>
  intro x x' a w h1 h2 h3 h4 h
  exact ⟨(hnil x x' h1 h2 h3 h4).2 h.1, h.2⟩
 | succ fuel ih =>
  intro x x' a w h1 h2 h3 h4 h
  refine ⟨fun hr => h.1 ((hnil x x' h1 h2 h3 h4).1 hr), fun i hi => ?_⟩
  have hi' := (hrd x x' h1 h2 h3 h4 i).1 hi
  have hw := h.2 _ hi'
  obtain ⟨hf, o, ho, _⟩ := mem_ready.1 hi
  obtain ⟨hf', o2, ho2, _⟩ := mem_ready.1 hi'
  have ho : l[i]? = some o := by simpa using ho
  obtain ⟨o', g1, g2, g3, g4, g5, g6⟩ := hop i o ho
  have hil : i < l.length := (List.getElem?_eq_some_iff.1 ho).1
  have hil' : σ i < l.length := by rw [← hlen]; exact (List.getElem?_eq_some_iff.1 g1).1
  have hK : ∀ a w, wpAny P .any l'.toArray Q fuel (x'.setIfInBounds (σ i) true) a w → wpAny P .any l.toArray Q fuel (x.setIfInBounds i true) a w := fun a w => by
   refine ih _ _ a w (hC _ _ h1) (fun j => ?_) (by simpa using h3) (by simpa using h4)
   by_cases e : j = σ i
   ·subst e
    rw [hσ]
    have q1 : σ i < x'.size := by omega
    have q2 : i < x.size := by omega
    simp [q1, q2]
   ·rw [getD_set_ne false (Ne.symm e), getD_set_ne false (fun e2 => e (by rw [e2, hσ])), h2]
  unfold wpOp at hw ⊢
  have e1 : l.toArray[i]? = some o := by simpa using ho
  have e2 : l'.toArray[σ i]? = some o' := by simpa using g1
  rw [e1]
  rw [e2] at hw
  simp only at hw ⊢
  rw [g6] at hw
  have ex : ∀ ρ, execOp ρ o' = execOp ρ o := fun ρ => execOp_same g2 g3 g4 g5
  split
  ·rename_i hwt
   rw [if_pos hwt] at hw
   rcases hw with hw | hw
   ·left
    have hw2 := Oper.wp_mono hK hw
    unfold Oper.wp at hw2 ⊢
    rw [ex] at hw2
    unfold Oper.upon at hw2 ⊢
    rw [g2] at hw2
    exact hw2
   ·right
    refine ⟨?_, hw.2⟩
    have := hw.1
    unfold Oper.asks at this ⊢
    rw [ex] at this
    exact this
  ·rename_i hwt
   rw [if_neg hwt] at hw
   rw [← g2]
   exact hK _ _ hw
theorem rdy {l : List Oper} {x : Array Bool} {i : Nat} : i ∈ Region.ready .any l.toArray x ↔ i < x.size ∧ x.getD i false = false ∧ ∃ o, l[i]? = some o ∧ ∀ e ∈ o.after, Region.binds .any e = true → x.getD e.on false = true := by
 rw [mem_ready]
 constructor
 ·rintro ⟨h, o, ho, he⟩
  have hi : i < x.size := by
   rcases Nat.lt_or_ge i x.size with q | q
   ·exact q
   ·simp [Nat.not_lt.2 q] at h
  exact ⟨hi, by simpa [hi] using h, o, by simpa using ho, he⟩
 ·rintro ⟨hi, h, o, ho, he⟩
  exact ⟨by simpa [hi] using h, o, by simpa using ho, he⟩
def swI (p i : Nat) : Nat := if i = p then p + 1 else if i = p + 1 then p else i
theorem swI_swI (p i : Nat) : swI p (swI p i) = i := by
 unfold swI
 by_cases h1 : i = p
 ·subst h1; simp
 ·by_cases h2 : i = p + 1
  ·subst h2; simp
  ·simp [h1, h2]
theorem swI_lo {p i : Nat} (h : i < p) : swI p i = i := by unfold swI; rw [if_neg (by omega), if_neg (by omega)]
theorem swI_hi {p i : Nat} (h : p + 2 ≤ i) : swI p i = i := by unfold swI; rw [if_neg (by omega), if_neg (by omega)]
theorem swI_p (p : Nat) : swI p p = p + 1 := by simp [swI]
theorem swI_q (p : Nat) : swI p (p + 1) = p := by simp [swI]
def swE (p : Nat) (e : Edge) : Edge := ⟨swI p e.on, e.ground⟩
def swO (p : Nat) (o : Oper) : Oper := ⟨o.dst, o.op, o.type, o.pos, (o.after.toList.map (swE p)).toArray, o.guard.map fun x => (swI p x.1, x.2)⟩
def addE (k : Nat) (o : Oper) : Oper := ⟨o.dst, o.op, o.type, o.pos, (o.after.toList ++ [(⟨k, .data⟩ : Edge)]).toArray, o.guard⟩
theorem wanted_same {l l' : List Oper} {σ : Nat → Nat} (hd : ∀ j, (l'[σ j]?).map Oper.dst = (l[j]?).map Oper.dst) {o o' : Oper} (hg : o'.guard = o.guard.map fun x => (σ x.1, x.2)) (tm : Array Value) :
  Region.wanted o' (yielded l'.toArray tm) = Region.wanted o (yielded l.toArray tm) := by
 have hy : ∀ j, yielded l'.toArray tm (σ j) = yielded l.toArray tm j := fun j => by
  have := hd j
  unfold yielded
  simp only [List.getElem?_toArray]
  cases h1 : l'[σ j]? with
  | none =>
   rw [h1] at this
   cases h2 : l[j]? with
   | none => rfl
   | some o => rw [h2] at this; cases this
  | some o' =>
   rw [h1] at this
   cases h2 : l[j]? with
   | none => rw [h2] at this; cases this
   | some o =>
    rw [h2] at this
    simp only [Option.map_some, Option.some.injEq] at this
    simp only [Option.bind_some, this]
 unfold Region.wanted
 rw [hg]
 cases o.guard with
 | none => rfl
 | some x => simp only [Option.map_some, hy]
section
variable {pre post : List Oper} {op oq : Oper}
theorem at_lo {r : List Oper} {i : Nat} (h : i < pre.length) : (pre ++ r)[i]? = pre[i]? := List.getElem?_append_left h
theorem at_p {r : List Oper} {o : Oper} : (pre ++ o :: r)[pre.length]? = some o := by simp
theorem at_q {r : List Oper} {o o2 : Oper} : (pre ++ o :: o2 :: r)[pre.length + 1]? = some o2 := by rw [List.getElem?_append_right (by omega)]; simp
theorem at_hi {r : List Oper} {o o2 : Oper} {i : Nat} (h : pre.length + 2 ≤ i) : (pre ++ o :: o2 :: r)[i]? = r[i - (pre.length + 2)]? := by
 rw [List.getElem?_append_right (by omega)]
 obtain ⟨k, rfl⟩ : ∃ k, i = pre.length + 2 + k := ⟨i - (pre.length + 2), by omega⟩
 rw [show pre.length + 2 + k - pre.length = k + 2 by omega, show pre.length + 2 + k - (pre.length + 2) = k by omega]
 rfl
theorem sim_A {P : Program} {Q : Exit → Act → World → Prop} : ∀ (fuel : Nat) (x : Array Bool) (a : Act) (w : World), x.getD pre.length false = true → x.size = (pre ++ op :: oq :: post).length →
  wpAny P .any (pre ++ op :: addE pre.length oq :: post).toArray Q fuel x a w → wpAny P .any (pre ++ op :: oq :: post).toArray Q fuel x a w := by
 have hd : ∀ j, ((pre ++ op :: addE pre.length oq :: post)[j]?).map Oper.dst = ((pre ++ op :: oq :: post)[j]?).map Oper.dst := fun j => by
  rcases Nat.lt_or_ge j pre.length with h | h
  ·rw [at_lo h, at_lo h]
  rcases Nat.lt_or_ge j (pre.length + 2) with h2 | h2
  ·rcases (show j = pre.length ∨ j = pre.length + 1 by omega) with rfl | rfl
   ·rw [at_p, at_p]
   ·rw [at_q, at_q]; rfl
  ·rw [at_hi h2, at_hi h2]
 intro fuel x a w h1 h2 h
 have key := wpAny_sim (P := P) (Q := Q) (l := pre ++ op :: oq :: post) (l' := pre ++ op :: addE pre.length oq :: post) (by simp) (fun i => i) (fun i => rfl) (fun x => x.getD pre.length false = true)
  (fun x i hx => by
   by_cases e : i = pre.length
   ·subst e; exact getD_set_true hx
   ·rw [getD_set_ne false e]; exact hx)
  (fun i o ho => by
   by_cases e : i = pre.length + 1
   ·subst e
    rw [at_q] at ho; cases ho
    exact ⟨addE pre.length oq, at_q, rfl, rfl, rfl, rfl, fun tm => wanted_same (σ := fun i => i) hd (by simp [addE]) tm⟩
   ·refine ⟨o, ?_, rfl, rfl, rfl, rfl, fun tm => wanted_same (σ := fun i => i) hd (by simp) tm⟩
    rcases Nat.lt_or_ge i pre.length with q | q
    ·rw [at_lo q] at ho ⊢; exact ho
    rcases Nat.lt_or_ge i (pre.length + 2) with q2 | q2
    ·obtain rfl : i = pre.length := by omega
     rw [at_p] at ho ⊢; exact ho
    ·rw [at_hi q2] at ho ⊢; exact ho)
  (fun x x' hx hr hs hs' i => by
   rw [rdy, rdy]
   have hsz : x'.size = x.size := by omega
   simp only [hr, hsz]
   refine and_congr_right fun _ => and_congr_right fun _ => ?_
   by_cases e : i = pre.length + 1
   ·subst e
    rw [at_q, at_q]
    constructor
    ·rintro ⟨o, ho, he⟩
     cases ho
     refine ⟨_, rfl, fun e he2 hb => ?_⟩
     simp only [addE, List.mem_toArray, List.mem_append, List.mem_singleton] at he2
     rcases he2 with he2 | rfl
     ·exact he e (Array.mem_toList_iff.1 he2) hb
     ·exact hx
    ·rintro ⟨o, ho, he⟩
     cases ho
     refine ⟨_, rfl, fun e he2 hb => he e ?_ hb⟩
     simp only [addE, List.mem_toArray, List.mem_append]
     exact .inl (Array.mem_toList_iff.2 he2)
   ·have : (pre ++ op :: addE pre.length oq :: post)[i]? = (pre ++ op :: oq :: post)[i]? := by
     rcases Nat.lt_or_ge i pre.length with q | q
     ·rw [at_lo q, at_lo q]
     rcases Nat.lt_or_ge i (pre.length + 2) with q2 | q2
     ·obtain rfl : i = pre.length := by omega
      rw [at_p, at_p]
     ·rw [at_hi q2, at_hi q2]
    rw [this])
  fuel x x a w h1 (fun i => rfl) h2 h2 h
 exact key
theorem sim_B {P : Program} {Q : Exit → Act → World → Prop} (ha : op.after = #[]) (hb : oq.after = #[]) (hga : op.guard = none) (hgb : oq.guard = none)
  (hep : ∀ o ∈ pre, ∀ e ∈ o.after, Region.binds .any e = true → e.on < pre.length) (hgp : ∀ o ∈ pre, ∀ j b, o.guard = some (j, b) → j < pre.length) :
  ∀ (fuel : Nat) (x x' : Array Bool) (a : Act) (w : World), x.getD (pre.length + 1) false = true → (∀ i, x'.getD i false = x.getD (swI pre.length i) false) → x.size = (pre ++ op :: oq :: post).length → x'.size = (pre ++ op :: oq :: post).length →
  wpAny P .any (pre ++ oq :: addE pre.length op :: post.map (swO pre.length)).toArray Q fuel x' a w → wpAny P .any (pre ++ op :: oq :: post).toArray Q fuel x a w := by
 have hd : ∀ j, ((pre ++ oq :: addE pre.length op :: post.map (swO pre.length))[swI pre.length j]?).map Oper.dst = ((pre ++ op :: oq :: post)[j]?).map Oper.dst := fun j => by
  rcases Nat.lt_or_ge j pre.length with h | h
  ·rw [swI_lo h, at_lo h, at_lo h]
  rcases Nat.lt_or_ge j (pre.length + 2) with h2 | h2
  ·rcases (show j = pre.length ∨ j = pre.length + 1 by omega) with rfl | rfl
   ·rw [swI_p, at_q, at_p]; rfl
   ·rw [swI_q, at_p, at_q]
  ·rw [swI_hi h2, at_hi h2, at_hi h2, List.getElem?_map]
   cases post[j - (pre.length + 2)]? <;> rfl
 refine wpAny_sim (P := P) (Q := Q) (l := pre ++ op :: oq :: post) (l' := pre ++ oq :: addE pre.length op :: post.map (swO pre.length)) (by simp) (swI pre.length) (swI_swI _) (fun x => x.getD (pre.length + 1) false = true)
  (fun x i hx => by
   by_cases e : i = pre.length + 1
   ·subst e; exact getD_set_true hx
   ·rw [getD_set_ne false e]; exact hx)
  (fun i o ho => ?_) (fun x x' hx hr hs hs' i => ?_)
 ·rcases Nat.lt_or_ge i pre.length with q | q
  ·rw [at_lo q] at ho
   refine ⟨o, by rw [swI_lo q, at_lo q]; exact ho, rfl, rfl, rfl, rfl, fun tm => wanted_same hd ?_ tm⟩
   cases hg : o.guard with
   | none => rfl
   | some x =>
    have := hgp o (List.mem_of_getElem? ho) x.1 x.2 hg
    simp only [Option.map_some, swI_lo this]
  rcases Nat.lt_or_ge i (pre.length + 2) with q2 | q2
  ·rcases (show i = pre.length ∨ i = pre.length + 1 by omega) with rfl | rfl
   ·rw [at_p] at ho; cases ho
    exact ⟨addE pre.length op, by rw [swI_p, at_q], rfl, rfl, rfl, rfl, fun tm => wanted_same hd (by simp [addE, hga]) tm⟩
   ·rw [at_q] at ho; cases ho
    exact ⟨oq, by rw [swI_q, at_p], rfl, rfl, rfl, rfl, fun tm => wanted_same hd (by simp [hgb]) tm⟩
  ·rw [at_hi q2] at ho
   exact ⟨swO pre.length o, by rw [swI_hi q2, at_hi q2, List.getElem?_map, ho]; rfl, rfl, rfl, rfl, rfl, fun tm => wanted_same hd rfl tm⟩
 ·rw [rdy, rdy]
  have hsz : x'.size = x.size := by omega
  rw [hr (swI pre.length i), swI_swI, hsz]
  have hil : x.size = pre.length + (post.length + 2) := by rw [hs]; simp
  have hlt : i < x.size ↔ swI pre.length i < x.size := by
   unfold swI
   split
   ·omega
   ·split <;> omega
  rw [← hlt]
  refine and_congr_right fun _ => and_congr_right fun _ => ?_
  rcases Nat.lt_or_ge i pre.length with q | q
  ·rw [swI_lo q, at_lo q, at_lo q]
   refine exists_congr fun o => and_congr_right fun ho => ?_
   refine forall_congr' fun e => forall_congr' fun he => forall_congr' fun hbi => ?_
   rw [hr, swI_lo (hep o (List.mem_of_getElem? ho) e he hbi)]
  rcases Nat.lt_or_ge i (pre.length + 2) with q2 | q2
  ·rcases (show i = pre.length ∨ i = pre.length + 1 by omega) with rfl | rfl
   ·rw [swI_p, at_p, at_q]
    constructor
    ·intro _
     refine ⟨_, rfl, fun e he hbi => ?_⟩
     simp only [addE, ha, List.nil_append, List.mem_toArray, List.mem_singleton] at he
     subst he
     simp only
     rw [hr, swI_p]; exact hx
    ·intro _
     exact ⟨_, rfl, fun e he => by rw [ha] at he; simp at he⟩
   ·rw [swI_q, at_p, at_q]
    constructor
    ·intro _
     exact ⟨_, rfl, fun e he => by rw [hb] at he; simp at he⟩
    ·intro _
     exact ⟨_, rfl, fun e he => by rw [hb] at he; simp at he⟩
  ·rw [swI_hi q2, at_hi q2, at_hi q2, List.getElem?_map]
   constructor
   ·rintro ⟨o, ho, he⟩
    rw [ho]
    refine ⟨_, rfl, fun e he2 hbi => ?_⟩
    simp only [swO, List.mem_toArray, List.mem_map] at he2
    obtain ⟨e0, h0, rfl⟩ := he2
    rw [hr]
    simp only [swE, swI_swI]
    exact he e0 (Array.mem_toList_iff.1 h0) hbi
   ·rintro ⟨o', ho, he⟩
    cases hpo : post[i - (pre.length + 2)]? with
    | none => rw [hpo] at ho; cases ho
    | some o =>
     rw [hpo] at ho; cases ho
     refine ⟨o, rfl, fun e he2 hbi => ?_⟩
     have := he (swE pre.length e) (by simp only [swO, List.mem_toArray, List.mem_map]; exact ⟨e, Array.mem_toList_iff.2 he2, rfl⟩) hbi
     rw [hr] at this
     simpa only [swE, swI_swI] using this
end
theorem agd_same {ops ops' : Array Oper} {o : Oper} (h : ∀ j b, o.guard = some (j, b) → (ops'[j]?).bind (·.dst) = (ops[j]?).bind (·.dst)) (fr : Frm) : agd ops' fr o = agd ops fr o := by
 unfold agd
 cases hg : o.guard with
 | none => rfl
 | some x =>
  obtain ⟨j, b⟩ := x
  simp only
  rw [h j b hg]
theorem DStep.ops {P : Program} {J : Mem → Prop} {z : Prop} {ops ops' : Array Oper} {c : Nat} {o : Oper} {fr : Frm} {B H : Mem} {r : AV} {H' : Mem} (h : DStep P J z ops c o fr B H r H') (hg : agd ops' fr o = agd ops fr o) : DStep P J z ops' c o fr B H r H' := by
 unfold DStep at h ⊢
 rw [hg]
 exact h
theorem Trace.cons {P : Program} {J : Mem → Prop} {T : Bool} {ops : Array Oper} {o : Oper} {rest : List Oper} {c : Nat} {cls : List Nat} {fr : Frm} {B H H' : Mem} {r : AV} {F : Nat → Frm} {R : Nat → AV} {M Bs : Nat → Mem}
  (hs : DStep P J (T = true ∧ rest = []) ops c o fr B H r H') (ht : Trace P J T ops rest cls F R M Bs) (h1 : F 0 = fr.put o.dst r) (h2 : M 0 = H') (h4 : Bs 0 = if c = 2 then H' else B) :
  Trace P J T ops (o :: rest) (c :: cls) (fun i => if i = 0 then fr else F (i - 1)) (fun i => if i = 0 then r else R (i - 1)) (fun i => if i = 0 then H else M (i - 1)) (fun i => if i = 0 then B else Bs (i - 1)) := ⟨fun i o' ho => by
 cases i with
 | zero =>
  simp at ho
  subst ho
  simp only [if_true, Nat.zero_add, Nat.one_ne_zero, if_false, Nat.sub_self, h1, h2, h4]
  have hs := hs.to (z' := T = true ∧ 1 = (o :: rest).length) fun ⟨q1, q2⟩ => ⟨q1, by rw [q2]; rfl⟩
  exact ⟨by simpa using hs, trivial, by simp⟩
 | succ i =>
  simp only [List.getElem?_cons_succ] at ho
  have := ht.step i o' ho
  simp only [Nat.succ_ne_zero, if_false, Nat.add_sub_cancel]
  refine ⟨?_, this.2.1, ?_⟩
  ·have q := this.1.to (z' := T = true ∧ i + 1 + 1 = (o :: rest).length) fun ⟨q1, q2⟩ => ⟨q1, by rw [List.length_cons, q2]⟩
   simpa using q
  ·simpa using this.2.2⟩
theorem joint {P : Program} {J : Mem → Prop} {ops opsA opsB : Array Oper} {sufA sufB : List Oper} {cA cB : List Nat} {KA KB : Frm → Mem → Prop} {H : Mem} : ∀ {pre : List Oper} {c : List Nat} {fr : Frm}, c.length = pre.length → (∀ i, i < pre.length → c.getD i 0 < 2) →
  (∀ o ∈ pre, ∀ fr, agd opsA fr o = agd ops fr o) → (∀ o ∈ pre, ∀ fr, agd opsB fr o = agd ops fr o) →
  DRun P J false ops c pre fr H H (fun fr' H' => H' = H ∧ DRun P J false opsA cA sufA fr' H H KA ∧ DRun P J false opsB cB sufB fr' H H KB) →
  ∃ (FA : Nat → Frm) (RA : Nat → AV) (MA BA : Nat → Mem) (FB : Nat → Frm) (RB : Nat → AV) (MB BB : Nat → Mem), Trace P J false opsA (pre ++ sufA) (c ++ cA) FA RA MA BA ∧ Trace P J false opsB (pre ++ sufB) (c ++ cB) FB RB MB BB ∧
   FA 0 = fr ∧ FB 0 = fr ∧ BA 0 = H ∧ BB 0 = H ∧ (∀ i, i < pre.length → RA i = RB i) ∧ (∀ i, i ≤ pre.length → MA i = H ∧ MB i = H) ∧
   KA (FA (pre ++ sufA).length) (MA (pre ++ sufA).length) ∧ KB (FB (pre ++ sufB).length) (MB (pre ++ sufB).length)
 | [], [], fr, _, _, _, _, h => by
  obtain ⟨_, hA, hB⟩ := h
  obtain ⟨FA, RA, MA, BA, a1, a2, a3, a4, a5⟩ := Trace.of_run hA
  obtain ⟨FB, RB, MB, BB, b1, b2, b3, b4, b5⟩ := Trace.of_run hB
  exact ⟨FA, RA, MA, BA, FB, RB, MB, BB, a1, b1, a2, b2, a4, b4, fun i hi => absurd hi (Nat.not_lt_zero _), fun i hi => by
   have : i = 0 := Nat.le_zero.1 hi
   subst this; exact ⟨a3, b3⟩, a5, b5⟩
 | [], _ :: _, _, hc, _, _, _, _ => by cases hc
 | _ :: _, [], _, hc, _, _, _, _ => by cases hc
 | o :: pre, c0 :: c, fr, hc, h2, gA, gB, h => by
  obtain ⟨r, H', hs, hr⟩ := h
  have hc0 : c0 < 2 := h2 0 (by simp)
  have hH : H' = H := hs.1 hc0
  subst hH
  rw [ite_self] at hr
  simp only [List.headD_cons, List.tail_cons] at hs hr
  obtain ⟨FA, RA, MA, BA, FB, RB, MB, BB, tA, tB, fA, fB, bA, bB, hR, hM, kA, kB⟩ := joint (by simpa using hc) (fun i hi => by simpa using h2 (i + 1) (by simp; omega)) (fun o ho => gA o (List.mem_cons_of_mem _ ho)) (fun o ho => gB o (List.mem_cons_of_mem _ ho)) hr
  have sA := (hs.ops (gA o (List.mem_cons_self ..) fr)).to (z' := false = true ∧ pre ++ sufA = []) fun q => by cases q.1
  have sB := (hs.ops (gB o (List.mem_cons_self ..) fr)).to (z' := false = true ∧ pre ++ sufB = []) fun q => by cases q.1
  refine ⟨_, _, _, _, _, _, _, _, Trace.cons sA tA fA (hM 0 (Nat.zero_le _)).1 (by rw [if_neg (by omega)]; exact bA), Trace.cons sB tB fB (hM 0 (Nat.zero_le _)).2 (by rw [if_neg (by omega)]; exact bB), rfl, rfl, rfl, rfl, fun i hi => ?_, fun i hi => ?_, ?_, ?_⟩
  ·cases i with
   | zero => rfl
   | succ i => simpa using hR i (by simpa using hi)
  ·cases i with
   | zero => exact ⟨rfl, rfl⟩
   | succ i => simpa using hM i (by simpa using hi)
  ·simpa using kA
  ·simpa using kB
def ok2 (pre : List Oper) (op oq : Oper) (post : List Oper) (c cA cB : List Nat) : Bool :=
 okD (pre ++ op :: addE pre.length oq :: post) (c ++ cA) && (okD (pre ++ oq :: addE pre.length op :: post.map (swO pre.length)) (c ++ cB) && (op.after.isEmpty && (oq.after.isEmpty && (op.guard.isNone && (oq.guard.isNone &&
 (pre.all (fun o => o.after.toList.all (fun e => !Region.binds .any e || decide (e.on < pre.length)) && (match o.guard with | none => true | some x => decide (x.1 < pre.length))) &&
 (decide (c.length = pre.length) && ((List.range pre.length).all (fun i => decide (c.getD i 0 < 2)) &&
 (List.range post.length).all (fun k => ((cloL (pre ++ op :: addE pre.length oq :: post) []).getD (pre.length + 2 + k) 0).testBit pre.length)))))))))
theorem aw_draw2 {P : Program} {N n0 : Nat} {fr : Frm} {H : Mem} {Q : Exit → Frm → Mem → Prop} {id : Nat} {pre post : List Oper} {op oq : Oper} (hm : P.follows .mixedOrders = true) (c cA cB : List Nat)
  (hlt : dstsLt (pre ++ op :: oq :: post) N = true) (hok : ok2 pre op oq post c cA cB = true) (J : Mem → Prop) (hJ : J H)
  (h : DRun P J false (pre ++ op :: oq :: post).toArray c pre fr H H (fun fr' H' => H' = H ∧ DRun P J false (pre ++ op :: addE pre.length oq :: post).toArray cA (op :: addE pre.length oq :: post) fr' H H (fun fr H => Q .normal fr H) ∧
   DRun P J false (pre ++ oq :: addE pre.length op :: post.map (swO pre.length)).toArray cB (oq :: addE pre.length op :: post.map (swO pre.length)) fr' H H (fun fr H => Q .normal fr H))) :
  aw P N n0 (.region id (pre ++ op :: oq :: post).toArray true) fr H Q := fun g w a hl hd hf hmr => by
 unfold ok2 at hok
 simp only [Bool.and_eq_true, List.all_eq_true, decide_eq_true_eq, Array.isEmpty_iff, Option.isNone_iff_eq_none] at hok
 obtain ⟨hokA, hokB, ha, hb, hga, hgb, hpre, hcl, hc2, hclo⟩ := hok
 have hep : ∀ o ∈ pre, ∀ e ∈ o.after, Region.binds .any e = true → e.on < pre.length := fun o ho e he hbi => by
  have := (hpre o ho).1 e (Array.mem_toList_iff.2 he)
  rw [hbi] at this
  simpa using this
 have hgp : ∀ o ∈ pre, ∀ j b, o.guard = some (j, b) → j < pre.length := fun o ho j b hg => by
  have := (hpre o ho).2
  rw [hg] at this
  simpa using this
 have hgA : ∀ o ∈ pre, ∀ fr, agd (pre ++ op :: addE pre.length oq :: post).toArray fr o = agd (pre ++ op :: oq :: post).toArray fr o := fun o ho => agd_same fun j b hg => by
  have := hgp o ho j b hg
  simp only [List.getElem?_toArray]
  rw [at_lo this, at_lo this]
 have hgB : ∀ o ∈ pre, ∀ fr, agd (pre ++ oq :: addE pre.length op :: post.map (swO pre.length)).toArray fr o = agd (pre ++ op :: oq :: post).toArray fr o := fun o ho => agd_same fun j b hg => by
  have := hgp o ho j b hg
  simp only [List.getElem?_toArray]
  rw [at_lo this, at_lo this]
 obtain ⟨FA, RA, MA, BA, FB, RB, MB, BB, tA, tB, fA, fB, bA, bB, hR, hM, kA, kB⟩ := joint hcl (fun i hi => hc2 i (List.mem_range.2 hi)) hgA hgB h
 have oA := okD_spec hokA
 have oB := okD_spec hokB
 generalize hlA : pre ++ op :: addE pre.length oq :: post = lA at *
 generalize hlB : pre ++ oq :: addE pre.length op :: post.map (swO pre.length) = lB at *
 have hlen : lA.length = (pre ++ op :: oq :: post).length := by rw [← hlA]; simp
 have hlenB : lB.length = (pre ++ op :: oq :: post).length := by rw [← hlB]; simp
 have hlen2 : (pre ++ op :: oq :: post).length = pre.length + (post.length + 2) := by simp
 have ltA : dstsLt lA N = true := by
  rw [← hlA]
  unfold dstsLt at hlt ⊢
  simpa [addE] using hlt
 have ltB : dstsLt lB N = true := by
  rw [← hlB]
  unfold dstsLt at hlt ⊢
  simp [addE, swO, Function.comp_def] at hlt ⊢
  exact ⟨hlt.1, hlt.2.2.1, hlt.2.1, hlt.2.2.2⟩
 have cgA : ∀ i, i < pre.length → (c ++ cA).getD i 0 < 2 := fun i hi => by
  have := hc2 i (List.mem_range.2 hi)
  rw [List.getD_eq_getElem?_getD] at this ⊢
  rw [List.getElem?_append_left (by omega)]; exact this
 have cgB : ∀ i, i < pre.length → (c ++ cB).getD i 0 < 2 := fun i hi => by
  have := hc2 i (List.mem_range.2 hi)
  rw [List.getD_eq_getElem?_getD] at this ⊢
  rw [List.getElem?_append_left (by omega)]; exact this
 have hB0A : BA 0 = MA 0 := bA.trans (hM 0 (Nat.zero_le _)).1.symm
 have hB0B : BB 0 = MB 0 := bB.trans (hM 0 (Nat.zero_le _)).2.symm
 have main : ∀ (fuel : Nat) (x : Array Bool) (fr1 : Frm) (g1 : Gh) (w1 : World) (a1 : Act), x.size = lA.length → x.count false ≤ fuel → (∀ i, x.getD i false = true → i < pre.length) → Done lA (c ++ cA) FA RA MA (fun i => x.getD i false = true) fr1 H →
   a1.defers = [] → FR g1 H.length N fr1 a1.tmps → MR g1 H w1 → Ev n0 g w g1 w1 → n0 ≤ H.length → wpAny P .any (pre ++ op :: oq :: post).toArray (CR N n0 g w Q) fuel x a1 w1 := by
  intro fuel
  induction fuel with
  | zero =>
   intro x fr1 g1 w1 a1 hsz hc hx hD hd hf hm he hn
   exfalso
   have hp : pre.length < x.size := by omega
   have : false ∈ x := by
    rw [Array.mem_iff_getElem]
    refine ⟨pre.length, hp, ?_⟩
    cases hq : x[pre.length] with
    | false => rfl
    | true => have := hx pre.length (by simp [hp, hq]); omega
   have := Array.count_pos_iff.2 this
   omega
  | succ fuel ih =>
   intro x fr1 g1 w1 a1 hsz hc hx hD hd hf hm he hn
   have hxf : ∀ i, pre.length ≤ i → x.getD i false = false := fun i hi => by
    cases hq : x.getD i false with
    | false => rfl
    | true => have := hx i hq; omega
   have hp : pre.length < x.size := by omega
   refine ⟨fun hr => ?_, fun i hi => ?_⟩
   ·exfalso
    have : pre.length ∈ Region.ready .any (pre ++ op :: oq :: post).toArray x := rdy.2 ⟨hp, hxf _ (Nat.le_refl _), op, at_p, fun e he => by rw [ha] at he; simp at he⟩
    rw [hr] at this
    cases this
   obtain ⟨his, hin, o, ho, hpe⟩ := rdy.1 hi
   rcases Nat.lt_or_ge i pre.length with q | q
   ·
    have hiA : lA[i]? = some o := by rw [← hlA]; rw [at_lo q] at ho ⊢; exact ho
    have hmem : o ∈ pre := by rw [at_lo q] at ho; exact List.mem_of_getElem? ho
    have hn0 : ¬ x.getD i false = true := by rw [hin]; simp
    have hnext := hD.next tA oA hiA hn0 hpe
    have hDeq : (fun j => j = i ∨ x.getD j false = true) = fun j => (x.setIfInBounds i true).getD j false = true := by
     funext j
     by_cases e : j = i
     ·subst e; simp [his]
     ·rw [getD_set_ne false (Ne.symm e)]; simp [e]
    have hci := cgA i q
    rw [hDeq, if_neg (by omega)] at hnext
    have hcnt : (x.setIfInBounds i true).count false ≤ fuel := by
     have h1 : x[i] = false := by simpa [his] using hin
     have h2 : 0 < x.count false := Array.count_pos_iff.2 (Array.mem_iff_getElem.2 ⟨i, his, h1⟩)
     rw [Array.setIfInBounds, dif_pos his, Array.count_set]
     simp [h1]
     omega
    have hx2 : ∀ j, (x.setIfInBounds i true).getD j false = true → j < pre.length := fun j hj => by
     by_cases e : j = i
     ·omega
     ·rw [getD_set_ne false (Ne.symm e)] at hj; exact hx j hj
    have hdst : ∀ y, o.dst = some y → y < N := fun y hy => by
     have := List.all_eq_true.1 ltA o (List.mem_of_getElem? hiA)
     rw [hy] at this; simpa using this
    obtain ⟨⟨hq, _, _, hs⟩, _⟩ := tA.step i o hiA
    have hag : ∀ t, t ∈ o.looksAt lA.toArray → fr1 t = FA i t := fun t => hD.looks tA oA hiA hn0 hpe
    have hgd : agd lA.toArray fr1 o = agd lA.toArray (FA i) o := by
     unfold agd
     cases hgd : o.guard with
     | none => rfl
     | some jw =>
      obtain ⟨j, want⟩ := jw
      simp only
      cases hdj : (lA.toArray[j]?).bind (·.dst) with
      | none => rfl
      | some d => simp only [hag d (by simp only [Oper.looksAt, hgd, List.mem_append]; right; rw [hdj]; simp)]
    have hgl : agd (pre ++ op :: oq :: post).toArray fr1 o = agd lA.toArray (FA i) o := (hgA o hmem fr1).symm.trans hgd
    unfold wpOp
    rw [show (pre ++ op :: oq :: post).toArray[i]? = some o by simpa using ho]
    simp only
    rcases hs with ⟨hg, hs⟩ | ⟨hg, hr, hM'⟩
    ·have hw := wanted_agd hf (hgl.trans hg)
     rw [if_pos hw]
     refine .inl (wp_of_Ls (K := SR H.length g1 w1 fun r1 H1 => r1 = RA i ∧ H1 = H) ?_ ?_)
     ·have hop : ∀ t, Operand.tmp t ∈ o.op.operands → fr1 t = FA i t := fun t hx => hag t (by
       simp only [Oper.looksAt, List.mem_append]; left
       exact List.mem_filterMap.2 ⟨.tmp t, Array.mem_toList_iff.2 hx, rfl⟩)
      have hO : OpS P o fr1 H fun r1 H1 => r1 = RA i ∧ H1 = H := by
       rcases hs with ⟨hc0, hs⟩ | ⟨hc0, hs⟩ | ⟨hc0, hs⟩
       ·exact (hs H hJ).congr hop
       ·exact (hs H (hD.look tA hB0A oA hiA hn0 hpe hc0)).congr hop
       ·omega
      exact hO g1 w1 a1.eval (fun x _ => VR_aev hf x) hm
     ·rintro v w' ⟨r, H', g', ⟨rfl, rfl⟩, hv, hm', he', hn'⟩
      refine ih _ _ g' w' _ (by simpa using hsz) hcnt hx2 hnext ?_ ?_ hm' (he.trans he' hn) hn
      ·cases o.dst <;> exact hd
      ·exact FR.put (FR.mono he'.gle hn' hf) hdst hv
    ·have hw := wanted_agd hf (hgl.trans hg)
     rw [if_neg (by rw [hw]; simp)]
     rw [hr] at hnext
     refine ih _ _ g1 w1 _ (by simpa using hsz) hcnt hx2 hnext ?_ ?_ hm he hn
     ·cases o.dst <;> exact hd
     ·exact FR.put hf hdst (.sc undef)
   rcases Nat.lt_or_ge i (pre.length + 2) with q2 | q2
   ·rcases (show i = pre.length ∨ i = pre.length + 1 by omega) with rfl | rfl
    ·
     have wA := draw_sound (QQ := CR N n0 g w Q) tA hB0A (by rw [(hM 0 (Nat.zero_le _)).1]; exact hJ) oA (fun q => by cases q) ltA (fun g' w' a' d f m e n => ⟨d, _, _, g', kA, f, m, e, n⟩) (fuel + 1) x fr1 H g1 w1 a1 hsz hc hD hd hf hm he hn
     have hr : pre.length ∈ Region.ready .any lA.toArray x := rdy.2 ⟨hp, hxf _ (Nat.le_refl _), op, by rw [← hlA, at_p], fun e he => by rw [ha] at he; simp at he⟩
     have h1 := wA.2 _ hr
     refine wpOp_sim (l' := lA) (o := op) at_p (by rw [← hlA, at_p]) rfl rfl rfl rfl ?_ ?_ h1
     ·unfold Region.wanted; rw [hga]
     ·intro a w hw
      refine sim_A fuel _ a w (by simp [hp]) (by simp only [Array.size_setIfInBounds]; omega) ?_
      rw [hlA]; exact hw
    ·
     have hDB : Done lB (c ++ cB) FB RB MB (fun i => x.getD i false = true) fr1 H := by
      have hsame : ∀ i, i < pre.length → lB[i]? = lA[i]? := fun i hi => by rw [← hlA, ← hlB, at_lo hi, at_lo hi]
      refine ⟨fun i o hi hDi => ?_, fun i o t hi hDi hdi => ?_, fun t h => ?_, pre.length, by omega, fun j hj hj2 => ⟨fun hDj => ?_, fun hjp => ?_⟩, (hM _ (Nat.le_refl _)).2.symm⟩
      ·exact hD.down i o (by rw [← hsame i (hx i hDi)]; exact hi) hDi
      ·rw [← hR i (hx i hDi)]
       exact hD.put i o t (by rw [← hsame i (hx i hDi)]; exact hi) hDi hdi
      ·rw [fB, ← fA]
       exact hD.keep t fun i o hi hDi => h i o (by rw [hsame i (hx i hDi)]; exact hi) hDi
      ·exact hx j hDj
      ·have := cgB j hjp; omega
     have wB := draw_sound (QQ := CR N n0 g w Q) tB hB0B (by rw [(hM 0 (Nat.zero_le _)).2]; exact hJ) oB (fun q => by cases q) ltB (fun g' w' a' d f m e n => ⟨d, _, _, g', kB, f, m, e, n⟩) (fuel + 1) x fr1 H g1 w1 a1 (by omega) hc hDB hd hf hm he hn
     have hr : pre.length ∈ Region.ready .any lB.toArray x := rdy.2 ⟨hp, hxf _ (Nat.le_refl _), oq, by rw [← hlB, at_p], fun e he => by rw [hb] at he; simp at he⟩
     have h1 := wB.2 _ hr
     refine wpOp_sim (l' := lB) (o := oq) at_q (by rw [← hlB, at_p]) rfl rfl rfl rfl ?_ ?_ h1
     ·unfold Region.wanted; rw [hgb]
     ·intro a w hw
      refine sim_B ha hb hga hgb hep hgp fuel _ (x.setIfInBounds pre.length true) a w ?_ (fun j => ?_) (by simp only [Array.size_setIfInBounds]; omega) (by simp only [Array.size_setIfInBounds]; omega) ?_
      ·have : pre.length + 1 < x.size := by omega
       simp [this]
      ·have hq : pre.length + 1 < x.size := by omega
       by_cases e : j = pre.length
       ·subst e; rw [swI_p]; simp [hp, hq]
       ·rw [getD_set_ne false (Ne.symm e)]
        by_cases e2 : j = pre.length + 1
        ·subst e2
         rw [swI_q, getD_set_ne false (by omega), hxf _ (Nat.le_succ _), hxf _ (Nat.le_refl _)]
        ·have : swI pre.length j = j := by unfold swI; rw [if_neg e, if_neg e2]
         rw [this, getD_set_ne false (Ne.symm e2)]
      ·rw [hlB]; exact hw
   ·
    exfalso
    have hiA : lA[i]? = some o := by rw [← hlA]; rw [at_hi q2] at ho ⊢; exact ho
    have hk : i - (pre.length + 2) < post.length := by omega
    have := hclo (i - (pre.length + 2)) (List.mem_range.2 hk)
    rw [show pre.length + 2 + (i - (pre.length + 2)) = i by omega] at this
    have := Done.clo oA hD.down (i + 1) i o (by omega) hiA hpe pre.length this
    have := hx _ this
    omega
 refine wp_region_any hm ?_
 refine main _ _ fr g _ a (by simp [hlen]) (by simp) (fun i hi => ?_) ?_ hd hf hmr.drawn ⟨.refl _ _, fun _ _ h => ⟨h, rfl⟩, Nat.le_refl _, rfl, rfl, rfl⟩ hl
 ·simp [Array.getElem?_replicate] at hi
  split at hi <;> simp at hi
 refine ⟨fun i o _ hD => ?_, fun i o t _ hD => ?_, fun t _ => by rw [fA], 0, Nat.zero_le _, fun j hj _ => ⟨fun hD => ?_, fun h => absurd h (Nat.not_lt_zero _)⟩, (hM 0 (Nat.zero_le _)).1.symm⟩
 ·simp [Array.getElem?_replicate] at hD
  split at hD <;> simp at hD
 ·simp [Array.getElem?_replicate] at hD
  split at hD <;> simp at hD
 ·simp [Array.getElem?_replicate] at hD
  split at hD <;> simp at hD
theorem aw_draw2L {P : Program} {N n0 : Nat} {fr : Frm} {H : Mem} {Q : Exit → Frm → Mem → Prop} {id : Nat} {l : List Oper} {op oq : Oper} (hm : P.follows .mixedOrders = true) (p : Nat) (c cA cB : List Nat) (hop : l[p]? = some op) (hoq : l[p + 1]? = some oq)
  (hlt : dstsLt l N = true) (hok : ok2 (l.take p) op oq (l.drop (p + 2)) c cA cB = true) (J : Mem → Prop) (hJ : J H)
  (h : DRun P J false l.toArray c (l.take p) fr H H (fun fr' H' => H' = H ∧ DRun P J false (l.take p ++ op :: addE p oq :: l.drop (p + 2)).toArray cA (op :: addE p oq :: l.drop (p + 2)) fr' H H (fun fr H => Q .normal fr H) ∧
   DRun P J false (l.take p ++ oq :: addE p op :: (l.drop (p + 2)).map (swO p)).toArray cB (oq :: addE p op :: (l.drop (p + 2)).map (swO p)) fr' H H (fun fr H => Q .normal fr H))) :
  aw P N n0 (.region id l.toArray true) fr H Q := by
 have h1 : p + 1 < l.length := (List.getElem?_eq_some_iff.1 hoq).1
 have e : l = l.take p ++ op :: oq :: l.drop (p + 2) := by
  have e1 : l.drop p = op :: l.drop (p + 1) := by rw [← List.getElem_cons_drop (show p < l.length by omega)]; rw [(List.getElem?_eq_some_iff.1 hop).2]
  have e2 : l.drop (p + 1) = oq :: l.drop (p + 2) := by rw [← List.getElem_cons_drop h1]; rw [(List.getElem?_eq_some_iff.1 hoq).2]
  conv => lhs; rw [← List.take_append_drop p l, e1, e2]
 have hlen : (l.take p).length = p := by rw [List.length_take]; omega
 have key := aw_draw2 (P := P) (N := N) (n0 := n0) (fr := fr) (H := H) (Q := Q) (id := id) (pre := l.take p) (post := l.drop (p + 2)) (op := op) (oq := oq) hm c cA cB (by rw [← e]; exact hlt) hok J hJ
 rw [← e, hlen] at key
 exact key h
end Go.Proofs.Ytgdbmgnfaefhoaa.Am
namespace Go.Proofs.Ytgdbmgnfaefhoaa.Am
open Go
theorem Reb.none1 {N : Nat} {fr : Frm} {H M : Mem} {t z : Nat} (hb : MBd H) (hp : H <+: M) (ht : fr t = .sc (.slice Option.none 0 0)) :
  Reb N H.length fr (Frm.of [(t, .hs H.length 0 0 0 z)]) M (H ++ [.cells []]) := by
 obtain ⟨tl, rfl⟩ := hp
 refine (Reb.drop (l := [(t, .sc (.slice Option.none 0 0))]) (Nat.le_refl _) hb ⟨by rw [ht]; exact .sc _, trivial⟩).trans (Reb.none ⟨?_, trivial⟩)
 simp only [Frm.of, if_true]; exact AVLt.hn _ _
theorem AVLe.hs0 (e mc z : Nat) : AVLe (.hs e 0 0 mc z) (.hs e 0 0 0 z) := fun g n v h => by
 cases h with
 | hs _ _ _ _ _ cap hid hl hmc hcap => exact .hs e 0 0 0 z cap hid (Nat.le_refl _) (Nat.zero_le _) hcap
 | hn _ _ _ a hid => exact .hn e 0 z a hid
end Go.Proofs.Ytgdbmgnfaefhoaa.Am
namespace Go.Proofs.Ytgdbmgnfaefhoaa.Am
open Go
def AV.et : AV → Option AV
 | .any => some .any
 | .sc v => some (.sc v)
 | .sl z es k => some (.sl z es k)
 | .ag cs => some (.ag cs)
 | .tp vs => some (.tp vs)
 | .pt id off => some (.pt id off)
 | .ep cs => some (.ep cs)
 | .hs id off len mc s => some (.hs id off len mc s)
 | .mp id => some (.mp id)
 | .fn f first caps => some (.fn f first caps)
theorem AV.et_some {a r : AV} (h : a.et = some r) : r = a := by cases a <;> (cases h; rfl)
def pOp (ops : Array Oper) (fr : Frm) (o : Oper) : Option AV :=
 match agd ops fr o with
 | some false => some undefA
 | some true =>
  (match o.op with
  | .move x => (aev fr x).et
  | .assign x => (aev fr x).et
  | .pick c x y => (match aev fr c with | .sc (.bool true) => (aev fr x).et | .sc (.bool false) => (aev fr y).et | _ => none)
  | .binOp op _ x y _ => (match op with
   | .shl => none
   | .shr => none
   | op => (match aev fr x, aev fr y with | .sc (.int k a), .sc (.int k' b) => if k = k' then (match intBin op k a b with | some v => some (.sc v) | none => none) else none | _, _ => none))
  | .unOp op _ x => (match aUn op (aev fr x) with | some v => some (.sc v) | none => none)
  | .extract x i => (match aev fr x with | .tp vs => (match vs[i]? with | some a => a.et | none => none) | _ => none)
  | _ => none)
 | none => none
theorem pOp_some {P : Program} {ops : Array Oper} {fr : Frm} {o : Oper} {r : AV} (h : pOp ops fr o = some r) : (agd ops fr o = some false ∧ r = undefA) ∨ (agd ops fr o = some true ∧ ∀ H, OpS P o fr H (Det r H)) := by
 obtain ⟨dst, op, ty, pos, after, guard⟩ := o
 unfold pOp at h
 split at h
 ·rename_i hg
  cases h
  exact .inl ⟨hg, rfl⟩
 ·rename_i hg
  refine .inr ⟨hg, fun H => ?_⟩
  simp only at h
  split at h
  ·obtain rfl := AV.et_some h; exact o_move (.refl _)
  ·obtain rfl := AV.et_some h; exact o_assign (.refl _)
  ·split at h
   ·rename_i hc; obtain rfl := AV.et_some h; exact o_pick (b := true) hc (.refl _)
   ·rename_i hc; obtain rfl := AV.et_some h; exact o_pick (b := false) hc (.refl _)
   ·cases h
  ·split at h
   ·cases h
   ·cases h
   ·rename_i h1 h2
    split at h
    ·rename_i hx hy
     split at h
     ·rename_i e
      subst e
      split at h
      ·rename_i hv; cases h
       exact o_int hx hy (by split <;> first | rfl | (exact absurd rfl h1) | (exact absurd rfl h2)) hv
      ·cases h
     ·cases h
    ·cases h
  ·split at h
   ·rename_i hv; cases h; exact opS_unOp hv ⟨.refl _, rfl⟩
   ·cases h
  ·split at h
   ·rename_i hx
    split at h
    ·rename_i ha; obtain rfl := AV.et_some h; exact o_extract hx ha
    ·cases h
   ·cases h
  ·cases h
 ·cases h
def pRun (ops : Array Oper) : Nat → List Oper → Frm → Option (List Oper × Frm)
 | 0, l, fr => some (l, fr)
 | _ + 1, [], _ => none
 | n + 1, o :: l, fr => match pOp ops fr o with | some r => pRun ops n l (fr.put o.dst r) | none => none
def pRunD (ops : Array Oper) : Nat → List Nat → List Oper → Frm → Option (List Nat × List Oper × Frm)
 | 0, cs, l, fr => some (cs, l, fr)
 | n + 1, c :: cs, o :: l, fr =>
  (match agd ops fr o with
  | some false => if c = 2 then none else pRunD ops n cs l (fr.put o.dst undefA)
  | _ => if c = 0 then (match pOp ops fr o with | some r => pRunD ops n cs l (fr.put o.dst r) | none => none) else none)
 | _ + 1, _, _, _ => none
section
variable {P : Program} {ops : Array Oper} {H B : Mem} {K : Frm → Mem → Prop} {J : Mem → Prop} {T : Bool}
theorem OR (n : Nat) : ∀ {l l' : List Oper} {fr fr' : Frm}, pRun ops n l fr = some (l', fr') → OpsS P ops l' fr' H K → OpsS P ops l fr H K := by
 induction n with
 | zero => intro l l' fr fr' h h2; cases h; exact h2
 | succ n ih =>
  intro l l' fr fr' h h2
  cases l with
  | nil => cases h
  | cons o l =>
   simp only [pRun] at h
   split at h
   ·rename_i r hr
    rcases pOp_some (P := P) hr with ⟨hg, rfl⟩ | ⟨hg, ho⟩
    ·exact OpsS_skip hg (ih h h2)
    ·exact OpsS_det r H hg (ho H) (ih h h2)
   ·cases h
theorem DR (n : Nat) : ∀ {cs cs' : List Nat} {l l' : List Oper} {fr fr' : Frm}, pRunD ops n cs l fr = some (cs', l', fr') → DRun P J T ops cs' l' fr' B H K → DRun P J T ops cs l fr B H K := by
 induction n with
 | zero => intro cs cs' l l' fr fr' h h2; cases h; exact h2
 | succ n ih =>
  intro cs cs' l l' fr fr' h h2
  unfold pRunD at h
  split at h
  ·rename_i e; cases e
  ·rename_i c cs2 o l2 fr2 en
   cases en
   split at h
   ·rename_i hg
    split at h
    ·cases h
    ·rename_i hc; exact DRun_skipN hc hg (ih h h2)
   ·split at h
    ·rename_i hc
     subst hc
     split at h
     ·rename_i r hr
      rcases pOp_some (P := P) hr with ⟨hg, rfl⟩ | ⟨hg, ho⟩
      ·exact DRun_skipN (by decide) hg (ih h h2)
      ·exact DRun_det0 r hg ho (ih h h2)
     ·cases h
    ·cases h
  ·cases h
end
end Go.Proofs.Ytgdbmgnfaefhoaa.Am
namespace Go.Proofs.Ytgdbmgnfaefhoaa.Am
open Go
section
variable {P : Program} {N n0 : Nat} {ops : Array Oper} {o : Oper} {rest : List Oper} {fr : Frm} {H B : Mem} {K : Frm → Mem → Prop} {Q : Exit → Frm → Mem → Prop} {J : Mem → Prop} {T : Bool} {cs : List Nat} {α : Type} {u v z : Option α} {b : Bool}
theorem aT {c : Operand} {x y : Code} (h : (if b = true then u else v) = z) (hc : aev fr c = .sc (.bool b)) (h1 : b = true → u = z → aw P N n0 x fr H Q) (h2 : b = false → v = z → aw P N n0 y fr H Q) : aw P N n0 (.cond c x y) fr H Q :=
 aw_test hc (fun e => h1 e (ite_t e h)) (fun e => h2 e (ite_f e h))
theorem oT (h : (if b = true then u else v) = z) (hg : agd ops fr o = some true) (ho : OpS P o fr H (Det (.sc (.bool b)) H)) (h1 : b = true → u = z → OpsS P ops rest (fr.put o.dst (.sc (.bool true))) H K)
  (h2 : b = false → v = z → OpsS P ops rest (fr.put o.dst (.sc (.bool false))) H K) : OpsS P ops (o :: rest) fr H K := OpsS_test hg ho (fun e => h1 e (ite_t e h)) (fun e => h2 e (ite_f e h))
theorem dT0 (h : (if b = true then u else v) = z) (hg : agd ops fr o = some true) (ho : ∀ H0 : Mem, OpS P o fr H0 (Det (.sc (.bool b)) H0)) (h1 : b = true → u = z → DRun P J T ops cs rest (fr.put o.dst (.sc (.bool true))) B H K)
  (h2 : b = false → v = z → DRun P J T ops cs rest (fr.put o.dst (.sc (.bool false))) B H K) : DRun P J T ops (0 :: cs) (o :: rest) fr B H K := DRun_test0 hg ho (fun e => h1 e (ite_t e h)) (fun e => h2 e (ite_f e h))
theorem bs {β : Type} {o : Option α} {f : α → Option β} {b : β} (h : o.bind f = some b) : ∃ a, o = some a ∧ f a = some b := bind_some h
theorem sr {id : Nat} {l : List Oper} {y : Code} (hlt : dstsLt l N = true) (h : OpsS P l.toArray l fr H fun fr H => thenQ (fun fr H => aw P N n0 y fr H Q) Q .normal fr H) : aw P N n0 (.seq (.region id l.toArray false) y) fr H Q := aw_seq (aw_region hlt h)
theorem nt (h : K fr H) : OpsS P ops [] fr H fun fr H => thenQ K Q .normal fr H := h
end
theorem flr {N n0 : Nat} {fr : Frm} {H : Mem} {l : List (Nat × AV)} (h : (l.map fun p => fr p.1) = l.map (·.2)) : Reb N n0 fr (Frm.of l) H H := Reb.fl (by
 induction l with
 | nil => trivial
 | cons p r ih =>
  simp only [List.map_cons, List.cons.injEq] at h
  exact ⟨by rw [h.1]; exact .refl _, ih h.2⟩)
end Go.Proofs.Ytgdbmgnfaefhoaa.Am
namespace Go.Proofs.Ytgdbmgnfaefhoaa.Am
open Go
set_option linter.unusedVariables false
theorem wpAny_sim2 {P : Program} {Q : Exit → Act → World → Prop} {l l' : List Oper} (hlen : l'.length = l.length) (σ τ : Nat → Nat) (h1σ : ∀ i, τ (σ i) = i) (h2σ : ∀ i, σ (τ i) = i) (C : Array Bool → Prop) (hC : ∀ (x : Array Bool) i, C x → C (x.setIfInBounds i true))
  (hop : ∀ (i : Nat) o, l[i]? = some o → ∃ o', l'[σ i]? = some o' ∧ o'.dst = o.dst ∧ o'.op = o.op ∧ o'.type = o.type ∧ o'.pos = o.pos ∧ ∀ tm, Region.wanted o' (yielded l'.toArray tm) = Region.wanted o (yielded l.toArray tm))
  (hrd : ∀ x x' : Array Bool, C x → (∀ i, x'.getD i false = x.getD (τ i) false) → x.size = l.length → x'.size = l.length → ∀ i, i ∈ Region.ready .any l.toArray x ↔ σ i ∈ Region.ready .any l'.toArray x') :
  ∀ (fuel : Nat) (x x' : Array Bool) (a : Act) (w : World), C x → (∀ i, x'.getD i false = x.getD (τ i) false) → x.size = l.length → x'.size = l.length → wpAny P .any l'.toArray Q fuel x' a w → wpAny P .any l.toArray Q fuel x a w := by
 have hnil : ∀ x x' : Array Bool, C x → (∀ i, x'.getD i false = x.getD (τ i) false) → x.size = l.length → x'.size = l.length → (Region.ready .any l.toArray x = [] ↔ Region.ready .any l'.toArray x' = []) := fun x x' h1 h2 h3 h4 => by
  constructor
  ·intro h
   apply List.eq_nil_iff_forall_not_mem.2
   intro j hj
   have := (hrd x x' h1 h2 h3 h4 (τ j)).2 (by rw [h2σ]; exact hj)
   rw [h] at this; cases this
  ·intro h
   apply List.eq_nil_iff_forall_not_mem.2
   intro j hj
   have := (hrd x x' h1 h2 h3 h4 j).1 hj
   rw [h] at this; cases this
 intro fuel
 induction fuel with
 | zero =>
  intro x x' a w h1 h2 h3 h4 h
  exact ⟨(hnil x x' h1 h2 h3 h4).2 h.1, h.2⟩
 | succ fuel ih =>
  intro x x' a w h1 h2 h3 h4 h
  refine ⟨fun hr => h.1 ((hnil x x' h1 h2 h3 h4).1 hr), fun i hi => ?_⟩
  have hi' := (hrd x x' h1 h2 h3 h4 i).1 hi
  have hw := h.2 _ hi'
  obtain ⟨hf, o, ho, _⟩ := mem_ready.1 hi
  have ho : l[i]? = some o := by simpa using ho
  obtain ⟨o', g1, g2, g3, g4, g5, g6⟩ := hop i o ho
  have hil : i < l.length := (List.getElem?_eq_some_iff.1 ho).1
  have hil' : σ i < l.length := by rw [← hlen]; exact (List.getElem?_eq_some_iff.1 g1).1
  refine wpOp_sim ho g1 g2 g3 g4 g5 (g6 _) (fun a w => ?_) hw
  refine ih _ _ a w (hC _ _ h1) (fun j => ?_) (by simpa using h3) (by simpa using h4)
  by_cases e : j = σ i
  ·subst e
   rw [h1σ]
   have q1 : σ i < x'.size := by omega
   have q2 : i < x.size := by omega
   simp [q1, q2]
  ·rw [getD_set_ne false (Ne.symm e), getD_set_ne false (fun e2 => e (by rw [e2, h2σ])), h2]
def reO (σ ex : List Nat) (o : Oper) : Oper := ⟨o.dst, o.op, o.type, o.pos, (o.after.toList.map (fun e => (⟨σ.getD e.on e.on, e.ground⟩ : Edge)) ++ ex.map fun k => (⟨k, .data⟩ : Edge)).toArray, o.guard.map fun x => (σ.getD x.1 x.1, x.2)⟩
def mkV (l : List Oper) (o0 : Oper) (σ : List Nat) (tx : List (Nat × List Nat)) : List Oper := tx.map fun t => reO σ t.2 (l.getD t.1 o0)
def okV (n : Nat) (σ : List Nat) (tx : List (Nat × List Nat)) (C : List Nat) : Bool :=
 decide (σ.length = n) && (decide (tx.length = n) && ((List.range n).all (fun i => decide (σ.getD i i < n) && decide ((tx.getD (σ.getD i i) (0, [])).1 = i)) && ((List.range n).all (fun k => decide ((tx.getD k (0, [])).1 < n) && decide (σ.getD (tx.getD k (0, [])).1 0 = k)) && tx.all fun t => t.2.all fun k => C.contains k)))
section
variable {n : Nat} {σ : List Nat} {tx : List (Nat × List Nat)} {C : List Nat}
def sg (σ : List Nat) (i : Nat) : Nat := σ.getD i i
def tu (tx : List (Nat × List Nat)) (k : Nat) : Nat := (tx.getD k (k, [])).1
theorem okV_spec (h : okV n σ tx C = true) : σ.length = n ∧ tx.length = n ∧ (∀ i, tu tx (sg σ i) = i) ∧ (∀ i, sg σ (tu tx i) = i) ∧ (∀ i, i < n → sg σ i < n) ∧ ∀ t ∈ tx, ∀ k ∈ t.2, k ∈ C := by
 unfold okV at h
 simp only [Bool.and_eq_true, decide_eq_true_eq, List.all_eq_true, List.mem_range, List.contains_eq_mem] at h
 obtain ⟨h1, h2, h3, h4, h5⟩ := h
 have e1 : ∀ k, k < n → tu tx k = (tx.getD k (0, [])).1 := fun k hk => by
  unfold tu
  rw [List.getD_eq_getElem?_getD, List.getD_eq_getElem?_getD, List.getElem?_eq_getElem (by omega)]
  rfl
 have e2 : ∀ k, ¬ k < n → tu tx k = k := fun k hk => by
  unfold tu
  rw [List.getD_eq_getElem?_getD, List.getElem?_eq_none (by omega)]
  rfl
 have e3 : ∀ k, ¬ k < n → sg σ k = k := fun k hk => by
  unfold sg
  rw [List.getD_eq_getElem?_getD, List.getElem?_eq_none (by omega)]
  rfl
 refine ⟨h1, h2, fun i => ?_, fun i => ?_, fun i hi => (h3 i hi).1, fun t ht k hk => h5 t ht k hk⟩
 ·by_cases hi : i < n
  ·rw [e1 (sg σ i) (h3 i hi).1]; exact (h3 i hi).2
  ·rw [e3 i hi, e2 i hi]
 ·by_cases hi : i < n
  ·have := h4 i hi
   rw [e1 i hi]
   unfold sg
   have q := this.2
   rw [List.getD_eq_getElem?_getD, List.getElem?_eq_getElem (by omega)] at q ⊢
   exact q
  ·rw [e2 i hi, e3 i hi]
theorem mkV_at {l : List Oper} {o0 : Oper} (h : okV l.length σ tx C = true) {i : Nat} {o : Oper} (ho : l[i]? = some o) : ∃ ex, (∀ k ∈ ex, k ∈ C) ∧ tx[sg σ i]? = some (i, ex) ∧ (mkV l o0 σ tx)[sg σ i]? = some (reO σ ex o) := by
 obtain ⟨q1, q2, q3, q4, q5, q6⟩ := okV_spec h
 have hi := (List.getElem?_eq_some_iff.1 ho).1
 have hs := q5 i hi
 have hg : tx[sg σ i]? = some tx[sg σ i] := List.getElem?_eq_getElem (by omega)
 have h1 : (tx[sg σ i]).1 = i := by
  have := q3 i
  unfold tu at this
  rwa [List.getD_eq_getElem?_getD, hg] at this
 refine ⟨(tx[sg σ i]).2, q6 _ (List.getElem_mem _), ?_, ?_⟩
 ·rw [hg]; congr 1; exact Prod.ext h1 rfl
 ·rw [mkV, List.getElem?_map, hg, Option.map_some, h1, List.getD_eq_getElem?_getD, ho]
  rfl
theorem mkV_len {l : List Oper} {o0 : Oper} (h : okV l.length σ tx C = true) : (mkV l o0 σ tx).length = l.length := by
 rw [mkV, List.length_map]; exact (okV_spec h).2.1
theorem mkV_hop {l : List Oper} {o0 : Oper} (h : okV l.length σ tx C = true) {i : Nat} {o : Oper} (ho : l[i]? = some o) : ∃ o', (mkV l o0 σ tx)[sg σ i]? = some o' ∧ o'.dst = o.dst ∧ o'.op = o.op ∧ o'.type = o.type ∧ o'.pos = o.pos ∧ ∀ tm, Region.wanted o' (yielded (mkV l o0 σ tx).toArray tm) = Region.wanted o (yielded l.toArray tm) := by
 obtain ⟨ex, _, _, h2⟩ := mkV_at (o0 := o0) h ho
 refine ⟨_, h2, rfl, rfl, rfl, rfl, fun tm => wanted_same (σ := sg σ) (fun j => ?_) rfl tm⟩
 rcases Nat.lt_or_ge j l.length with hj | hj
 ·obtain ⟨ex2, _, _, h3⟩ := mkV_at (o0 := o0) h (List.getElem?_eq_getElem hj)
  rw [h3, List.getElem?_eq_getElem hj]; rfl
 ·rw [List.getElem?_eq_none hj, List.getElem?_eq_none]
  rw [mkV_len h]
  have q := okV_spec h
  have : sg σ j = j := by unfold sg; rw [List.getD_eq_getElem?_getD, List.getElem?_eq_none (by omega)]; rfl
  omega
theorem mkV_rdy {l : List Oper} {o0 : Oper} (h : okV l.length σ tx C = true) {x x' : Array Bool} (hx : ∀ i, x'.getD i false = x.getD (tu tx i) false) (h1 : x.size = l.length) (h2 : x'.size = l.length) {i : Nat} (hC : ∀ ex, tx[sg σ i]? = some (i, ex) → ∀ k ∈ ex, x'.getD k false = true) :
  i ∈ Region.ready .any l.toArray x ↔ sg σ i ∈ Region.ready .any (mkV l o0 σ tx).toArray x' := by
 obtain ⟨q1, q2, q3, q4, q5, q6⟩ := okV_spec h
 rw [rdy, rdy, hx (sg σ i), q3]
 constructor
 ·rintro ⟨a1, a2, o, ho, he⟩
  obtain ⟨ex, b1, b2, b3⟩ := mkV_at (o0 := o0) h ho
  refine ⟨by have := q5 i (by omega); omega, a2, _, b3, fun e he2 hb => ?_⟩
  simp only [reO, List.mem_toArray, List.mem_append, List.mem_map] at he2
  rcases he2 with ⟨e0, h0, rfl⟩ | ⟨k, hk, rfl⟩
  ·simp only
   rw [hx, show σ.getD e0.on e0.on = sg σ e0.on from rfl, q3]
   exact he e0 (Array.mem_toList_iff.1 h0) hb
  ·exact hC ex b2 k hk
 ·rintro ⟨a1, a2, o', ho', he⟩
  have hi : i < l.length := by
   rcases Nat.lt_or_ge i l.length with q | q
   ·exact q
   ·have : sg σ i = i := by unfold sg; rw [List.getD_eq_getElem?_getD, List.getElem?_eq_none (by omega)]; rfl
    omega
  obtain ⟨ex, b1, b2, b3⟩ := mkV_at (o0 := o0) h (List.getElem?_eq_getElem hi)
  rw [b3] at ho'; cases ho'
  refine ⟨by omega, a2, _, List.getElem?_eq_getElem hi, fun e he2 hb => ?_⟩
  have := he ⟨σ.getD e.on e.on, e.ground⟩ (by
   simp only [reO, List.mem_toArray, List.mem_append, List.mem_map]
   exact .inl ⟨e, Array.mem_toList_iff.2 he2, rfl⟩) hb
  simp only at this
  rwa [hx, show σ.getD e.on e.on = sg σ e.on from rfl, q3] at this
theorem sim_V {P : Program} {Q : Exit → Act → World → Prop} {l : List Oper} {o0 : Oper} (h : okV l.length σ tx C = true) : ∀ (fuel : Nat) (x x' : Array Bool) (a : Act) (w : World), (∀ k ∈ C, x.getD (tu tx k) false = true) → (∀ i, x'.getD i false = x.getD (tu tx i) false) → x.size = l.length → x'.size = l.length →
  wpAny P .any (mkV l o0 σ tx).toArray Q fuel x' a w → wpAny P .any l.toArray Q fuel x a w :=
 wpAny_sim2 (mkV_len h) (sg σ) (tu tx) (okV_spec h).2.2.1 (okV_spec h).2.2.2.1 (fun x => ∀ k ∈ C, x.getD (tu tx k) false = true)
  (fun x i hx k hk => by
   by_cases e : i = tu tx k
   ·subst e; exact getD_set_true (hx k hk)
   ·rw [getD_set_ne false e]; exact hx k hk)
  (fun i o ho => mkV_hop h ho)
  (fun x x' hc hx h1 h2 i => mkV_rdy h hx h1 h2 fun ex he k hk => by
   rw [hx]
   exact hc k ((okV_spec h).2.2.2.2.2 _ (List.mem_of_getElem? he) k hk))
end
theorem Trace.pre {P : Program} {J : Mem → Prop} {ops : Array Oper} {K : Frm → Mem → Prop} : ∀ {pre : List Oper} {c : List Nat} {fr : Frm} {B H : Mem}, c.length = pre.length → (∀ i, i < pre.length → c.getD i 0 ≠ 2) →
  DRun P J false ops c pre fr B H K → ∃ (fr' : Frm) (H' : Mem) (R0 : Nat → AV) (M0 : Nat → Mem), K fr' H' ∧ ∀ (opsA : Array Oper) (suf : List Oper) (cA : List Nat) (FA : Nat → Frm) (RA : Nat → AV) (MA BA : Nat → Mem), (∀ o ∈ pre, ∀ fr, agd opsA fr o = agd ops fr o) →
   Trace P J false opsA suf cA FA RA MA BA → FA 0 = fr' → MA 0 = H' → BA 0 = B → ∃ F R M Bs, Trace P J false opsA (pre ++ suf) (c ++ cA) F R M Bs ∧ F 0 = fr ∧ M 0 = H ∧ Bs 0 = B ∧ (∀ i, i < pre.length → R i = R0 i) ∧ (∀ i, i ≤ pre.length → M i = M0 i) ∧
    (∀ j, F (pre.length + j) = FA j) ∧ (∀ j, R (pre.length + j) = RA j) ∧ ∀ j, M (pre.length + j) = MA j
 | [], [], fr, B, H, _, _, h => ⟨fr, H, fun _ => .any, fun _ => H, h, fun opsA suf cA FA RA MA BA _ ht h1 h2 h3 => ⟨FA, RA, MA, BA, ht, h1, h2, h3, fun i hi => absurd hi (Nat.not_lt_zero _), fun i hi => by
   have : i = 0 := Nat.le_zero.1 hi
   subst this; exact h2, fun j => by simp, fun j => by simp, fun j => by simp⟩⟩
 | [], _ :: _, _, _, _, hc, _, _ => by cases hc
 | _ :: _, [], _, _, _, hc, _, _ => by cases hc
 | o :: pre, c0 :: c, fr, B, H, hc, h2, h => by
  obtain ⟨r, H', hs, hr⟩ := h
  have hc0 : c0 ≠ 2 := h2 0 (by simp)
  rw [show (if (c0 :: c).headD 0 = 2 then H' else B) = B from if_neg hc0] at hr
  simp only [List.headD_cons, List.tail_cons] at hs hr
  obtain ⟨fr', H2, R0, M0, hK, hT⟩ := Trace.pre (by simpa using hc) (fun i hi => by simpa using h2 (i + 1) (by simp; omega)) hr
  refine ⟨fr', H2, fun i => if i = 0 then r else R0 (i - 1), fun i => if i = 0 then H else M0 (i - 1), hK, fun opsA suf cA FA RA MA BA hg ht q1 q2 q3 => ?_⟩
  obtain ⟨F, R, M, Bs, t, a1, a2, a3, a4, a5, a6, a7, a8⟩ := hT opsA suf cA FA RA MA BA (fun o ho => hg o (List.mem_cons_of_mem _ ho)) ht q1 q2 q3
  have sA := (hs.ops (hg o (List.mem_cons_self ..) fr)).to (z' := false = true ∧ pre ++ suf = []) fun q => by cases q.1
  refine ⟨_, _, _, _, Trace.cons sA t a1 a2 (by rw [if_neg hc0]; exact a3), rfl, rfl, rfl, fun i hi => ?_, fun i hi => ?_, fun j => ?_, fun j => ?_, fun j => ?_⟩
  ·cases i with
   | zero => rfl
   | succ i => simpa using a4 i (by simpa using hi)
  ·cases i with
   | zero => rfl
   | succ i => simpa using a5 i (by simpa using hi)
  ·have := a6 j
   rw [show (o :: pre).length + j = pre.length + j + 1 by simp; omega]
   simpa using this
  ·have := a7 j
   rw [show (o :: pre).length + j = pre.length + j + 1 by simp; omega]
   simpa using this
  ·have := a8 j
   rw [show (o :: pre).length + j = pre.length + j + 1 by simp; omega]
   simpa using this
theorem main3 {P : Program} {J : Mem → Prop} {N : Nat} {l lA : List Oper} {cA : List Nat} {F : Nat → Frm} {R : Nat → AV} {M Bs : Nat → Mem} {B : Nat → Nat → Prop} {QQ : Exit → Act → World → Prop} {n0 : Nat} {g0 : Gh} {w0 : World} (q : Nat)
  (ht : Trace P J false lA.toArray lA cA F R M Bs) (hB0 : Bs 0 = M 0) (hJ : J (M 0)) (hok : OkD lA cA B) (hlt : dstsLt lA N = true)
  (hlen : lA.length = l.length) (hsame : ∀ i, i < q → lA[i]? = l[i]?) (hgu : ∀ i o, i < q → l[i]? = some o → ∀ fr, agd l.toArray fr o = agd lA.toArray fr o)
  (oq : Oper) (hoq : l[q]? = some oq) (hoe : ∀ e ∈ oq.after, Region.binds .any e = true → e.on < q)
  (hrev : ∀ (fuel : Nat) (x : Array Bool) (fr : Frm) (H : Mem) (g : Gh) (w : World) (a : Act), x.size = lA.length → x.count false ≤ fuel + 1 → (∀ i, x.getD i false = true → i < q) → Done lA cA F R M (fun i => x.getD i false = true) fr H →
   a.defers = [] → FR g H.length N fr a.tmps → MR g H w → Ev n0 g0 w0 g w → n0 ≤ H.length → ∀ i, q ≤ i → i ∈ Region.ready .any l.toArray x → wpOp P l.toArray QQ i (wpAny P .any l.toArray QQ fuel (x.setIfInBounds i true)) a w) :
  ∀ (fuel : Nat) (x : Array Bool) (fr : Frm) (H : Mem) (g : Gh) (w : World) (a : Act), x.size = lA.length → x.count false ≤ fuel → (∀ i, x.getD i false = true → i < q) → Done lA cA F R M (fun i => x.getD i false = true) fr H →
   a.defers = [] → FR g H.length N fr a.tmps → MR g H w → Ev n0 g0 w0 g w → n0 ≤ H.length → wpAny P .any l.toArray QQ fuel x a w := by
 have hql : q < l.length := (List.getElem?_eq_some_iff.1 hoq).1
 intro fuel
 induction fuel with
 | zero =>
  intro x fr1 H g1 w1 a1 hsz hc hx hD hd hf hm he hn
  exfalso
  have hp : q < x.size := by omega
  have : false ∈ x := by
   rw [Array.mem_iff_getElem]
   refine ⟨q, hp, ?_⟩
   cases hq : x[q] with
   | false => rfl
   | true => have := hx q (by simp [hp, hq]); omega
  have := Array.count_pos_iff.2 this
  omega
 | succ fuel ih =>
  intro x fr1 H g1 w1 a1 hsz hc hx hD hd hf hm he hn
  refine ⟨fun hr => ?_, fun i hi => ?_⟩
  ·exfalso
   have hall : ∀ (n i : Nat), i < n → i ≤ q → x.getD i false = true := by
    intro n
    induction n with
    | zero => intro i h; exact absurd h (Nat.not_lt_zero _)
    | succ n ihn =>
     intro i h hiq
     apply Classical.byContradiction
     intro hcn
     have hcf : x.getD i false = false := by simpa using hcn
     have hin : ∃ o, l[i]? = some o ∧ ∀ e ∈ o.after, Region.binds .any e = true → x.getD e.on false = true := by
      by_cases e : i = q
      ·subst e
       exact ⟨oq, hoq, fun e he hb => by have := hoe e he hb; exact ihn _ (by omega) (by omega)⟩
      ·have hiq2 : i < q := by omega
       have ho : l[i]? = some l[i] := List.getElem?_eq_getElem (by omega)
       refine ⟨_, ho, fun e he hb => ?_⟩
       have := hok.low i _ (by rw [hsame i hiq2]; exact ho) e he hb
       exact ihn _ (by omega) (by omega)
     have : i ∈ Region.ready .any l.toArray x := rdy.2 ⟨by omega, hcf, hin⟩
     rw [hr] at this; cases this
   have := hx q (hall (q + 1) q (by omega) (Nat.le_refl _))
   omega
  by_cases hiq2 : q ≤ i
  ·exact hrev fuel x fr1 H g1 w1 a1 hsz hc hx hD hd hf hm he hn i hiq2 hi
  have hiq : i < q := by omega
  obtain ⟨his, hin, o, ho, hpe⟩ := rdy.1 hi
  have hiA : lA[i]? = some o := by rw [hsame i hiq]; exact ho
  have hn0 : ¬ x.getD i false = true := by rw [hin]; simp
  have hnext := hD.next ht hok hiA hn0 hpe
  have hDeq : (fun j => j = i ∨ x.getD j false = true) = fun j => (x.setIfInBounds i true).getD j false = true := by
   funext j
   by_cases e : j = i
   ·subst e; simp [his]
   ·rw [getD_set_ne false (Ne.symm e)]; simp [e]
  rw [hDeq] at hnext
  have hcnt : (x.setIfInBounds i true).count false ≤ fuel := by
   have h1 : x[i] = false := by simpa [his] using hin
   have h2 : 0 < x.count false := Array.count_pos_iff.2 (Array.mem_iff_getElem.2 ⟨i, his, h1⟩)
   rw [Array.setIfInBounds, dif_pos his, Array.count_set]
   simp [h1]
   omega
  have hx2 : ∀ j, (x.setIfInBounds i true).getD j false = true → j < q := fun j hj => by
   by_cases e : j = i
   ·omega
   ·rw [getD_set_ne false (Ne.symm e)] at hj; exact hx j hj
  have hdst : ∀ y, o.dst = some y → y < N := fun y hy => by
   have := List.all_eq_true.1 hlt o (List.mem_of_getElem? hiA)
   rw [hy] at this; simpa using this
  obtain ⟨⟨hq, _, _, hs⟩, _⟩ := ht.step i o hiA
  have hag : ∀ t, t ∈ o.looksAt lA.toArray → fr1 t = F i t := fun t => hD.looks ht hok hiA hn0 hpe
  have hgd : agd lA.toArray fr1 o = agd lA.toArray (F i) o := by
   unfold agd
   cases hgd : o.guard with
   | none => rfl
   | some jw =>
    obtain ⟨j, want⟩ := jw
    simp only
    cases hdj : (lA.toArray[j]?).bind (·.dst) with
    | none => rfl
    | some d => simp only [hag d (by simp only [Oper.looksAt, hgd, List.mem_append]; right; rw [hdj]; simp)]
  have hgl : agd l.toArray fr1 o = agd lA.toArray (F i) o := (hgu i o hiq ho fr1).trans hgd
  unfold wpOp
  rw [show l.toArray[i]? = some o by simpa using ho]
  simp only
  rcases hs with ⟨hg, hs⟩ | ⟨hg, hr, hM⟩
  ·have hw := wanted_agd hf (hgl.trans hg)
   rw [if_pos hw]
   refine .inl (wp_of_Ls (K := SR H.length g1 w1 fun r1 H1 => r1 = R i ∧ H1 = if 2 ≤ cA.getD i 0 then M (i + 1) else H) ?_ ?_)
   ·have hop : ∀ t, Operand.tmp t ∈ o.op.operands → fr1 t = F i t := fun t hx => hag t (by
     simp only [Oper.looksAt, List.mem_append]; left
     exact List.mem_filterMap.2 ⟨.tmp t, Array.mem_toList_iff.2 hx, rfl⟩)
    have hO : OpS P o fr1 H fun r1 H1 => r1 = R i ∧ H1 = if 2 ≤ cA.getD i 0 then M (i + 1) else H := by
     rcases hs with ⟨hc0, hs⟩ | ⟨hc0, hs⟩ | ⟨hc0, hs⟩
     ·rw [if_neg (by omega)]
      exact (hs H (by
       obtain ⟨m, hm, hmem, e⟩ := hD.mem
       rw [e]
       exact ht.inv hJ hm fun q => by cases q)).congr hop
     ·rw [if_neg (by omega)]
      exact (hs H (hD.look ht hB0 hok hiA hn0 hpe hc0)).congr hop
     ·have hH := hD.here ht hok hiA hn0 hpe hc0
      rw [if_pos hc0, hH]
      exact hs.congr hop
    exact hO g1 w1 a1.eval (fun x _ => VR_aev hf x) hm
   ·rintro v w' ⟨r, H', g', ⟨rfl, hH'⟩, hv, hm', he', hn'⟩
    refine ih _ _ _ g' w' _ (by simpa using hsz) hcnt hx2 hnext ?_ ?_ (hH' ▸ hm') (he.trans he' hn) (hH' ▸ Nat.le_trans hn hn')
    ·cases o.dst <;> exact hd
    ·exact hH' ▸ FR.put (FR.mono he'.gle hn' hf) hdst hv
  ·have hw := wanted_agd hf (hgl.trans hg)
   rw [if_neg (by rw [hw]; simp)]
   have hH' : (if 2 ≤ cA.getD i 0 then M (i + 1) else H) = H := by
    split
    ·rename_i h2; rw [hM, hD.here ht hok hiA hn0 hpe h2]
    ·rfl
   rw [hH', hr] at hnext
   refine ih _ _ _ g1 w1 _ (by simpa using hsz) hcnt hx2 hnext ?_ ?_ hm he hn
   ·cases o.dst <;> exact hd
   ·exact FR.put hf hdst (.sc undef)
theorem reveal {P : Program} {J : Mem → Prop} {N : Nat} {l lA lV : List Oper} {σ : List Nat} {tx : List (Nat × List Nat)} {C : List Nat} {o0 : Oper} {cA cV : List Nat} {F FV : Nat → Frm} {R RV : Nat → AV} {M MV BV : Nat → Mem} {BB : Nat → Nat → Prop} {QQ : Exit → Act → World → Prop} {n0 : Nat} {g0 : Gh} {w0 : World} (q i : Nat)
  (hV : okV l.length σ tx C = true) (hl : lV = mkV l o0 σ tx) (hid : ∀ k, k < q → tu tx k = k) (hge : ∀ k, q ≤ k → q ≤ tu tx k)
  (hlen : lA.length = l.length) (hql : q ≤ l.length) (hsame : ∀ k, k < q → lV[k]? = lA[k]?)
  (hF : FV 0 = F 0) (hR : ∀ k, k < q → RV k = R k) (hM : ∀ k, k ≤ q → MV k = M k) (hcl : ∀ k, k < q → cV.getD k 0 = cA.getD k 0)
  (ht : Trace P J false lV.toArray lV cV FV RV MV BV) (hB0 : BV 0 = MV 0) (hJ : J (MV 0)) (hok : OkD lV cV BB) (hlt : dstsLt lV N = true)
  (hQ : ∀ (g : Gh) (w : World) (a : Act), a.defers = [] → FR g (MV lV.length).length N (FV lV.length) a.tmps → MR g (MV lV.length) w → Ev n0 g0 w0 g w → n0 ≤ (MV lV.length).length → QQ .normal a w)
  {fuel : Nat} {x : Array Bool} {fr : Frm} {H : Mem} {g : Gh} {w : World} {a : Act} (hsz : x.size = lA.length) (hc : x.count false ≤ fuel + 1) (hx : ∀ k, x.getD k false = true → k < q) (hm2 : ∃ m, m ≤ q ∧ (∀ j, j < lA.length → 2 ≤ cA.getD j 0 → (x.getD j false = true ↔ j < m)) ∧ H = M m) (hD : Done lA cA F R M (fun i => x.getD i false = true) fr H)
  (hcq : ∀ m, m ≤ q → (∀ j, j < lA.length → 2 ≤ cA.getD j 0 → (x.getD j false = true ↔ j < m)) → ∀ j, j < lV.length → 2 ≤ cV.getD j 0 → (x.getD j false = true ↔ j < m))
  (hd : a.defers = []) (hf : FR g H.length N fr a.tmps) (hm : MR g H w) (he : Ev n0 g0 w0 g w) (hn : n0 ≤ H.length)
  (hi : i ∈ Region.ready .any l.toArray x) (hex : ∀ ex, tx[sg σ i]? = some (i, ex) → ∀ k ∈ ex, x.getD k false = true) (hC : ∀ k ∈ C, k = sg σ i ∨ k < q ∧ x.getD k false = true) :
  wpOp P l.toArray QQ i (wpAny P .any l.toArray QQ fuel (x.setIfInBounds i true)) a w := by
 obtain ⟨q1, q2, q3, q4, q5, q6⟩ := okV_spec hV
 have hlV : lV.length = l.length := by rw [hl]; exact mkV_len hV
 have hxx : ∀ k, x.getD k false = x.getD (tu tx k) false := fun k => by
  rcases Nat.lt_or_ge k q with h | h
  ·rw [hid k h]
  ·have e1 : x.getD k false = false := by
    cases e : x.getD k false with
    | false => rfl
    | true => have := hx k e; omega
   have e2 : x.getD (tu tx k) false = false := by
    cases e : x.getD (tu tx k) false with
    | false => rfl
    | true => have := hx _ e; have := hge k h; omega
   rw [e1, e2]
 have hDV : Done lV cV FV RV MV (fun i => x.getD i false = true) fr H := by
  obtain ⟨m, hm1, hm3, hm4⟩ := hm2
  refine ⟨fun i o hi hDi => ?_, fun i o t hi hDi hdi => ?_, fun t h => ?_, m, ?_, hcq m hm1 hm3, by rw [hm4, hM m hm1]⟩
  ·exact hD.down i o (by rw [← hsame i (hx i hDi)]; exact hi) hDi
  ·rw [hR i (hx i hDi)]
   exact hD.put i o t (by rw [← hsame i (hx i hDi)]; exact hi) hDi hdi
  ·rw [hF]
   exact hD.keep t fun i o hi hDi => h i o (by rw [hsame i (hx i hDi)]; exact hi) hDi
  ·omega
 have wV := draw_sound (QQ := QQ) ht hB0 hJ hok (fun q => by cases q) hlt hQ (fuel + 1) x fr H g w a (by omega) hc hDV hd hf hm he hn
 have hir : sg σ i ∈ Region.ready .any lV.toArray x := by
  rw [hl]; exact (mkV_rdy hV hxx (by omega) (by omega) hex).1 hi
 have h1 := wV.2 _ hir
 obtain ⟨his, hin, o, ho, hpe⟩ := rdy.1 hi
 obtain ⟨o', g1, g2, g3, g4, g5, g6⟩ := mkV_hop (o0 := o0) hV ho
 have hsi := q5 i (by omega)
 refine wpOp_sim ho (by rw [hl]; exact g1) g2 g3 g4 g5 (by rw [hl]; exact g6 _) (fun a w hw => ?_) h1
 refine sim_V (o0 := o0) hV fuel _ (x.setIfInBounds (sg σ i) true) a w (fun k hk => ?_) (fun k => ?_) (by simp only [Array.size_setIfInBounds]; omega) (by simp only [Array.size_setIfInBounds]; omega) (by rw [← hl]; exact hw)
 ·rcases hC k hk with rfl | ⟨hkq, hk2⟩
  ·rw [q3]; simp [his]
  ·rw [hid k hkq]; exact getD_set_true hk2
 ·by_cases e : k = sg σ i
  ·subst e
   have : sg σ i < x.size := by omega
   rw [q3]; simp [his, this]
  ·rw [getD_set_ne false (Ne.symm e), getD_set_ne false (fun e2 => e (by rw [e2, q4]))]
   exact hxx k
def sgA (n p : Nat) : List Nat := List.range n
def txA (n p : Nat) : List (Nat × List Nat) := (List.range n).map fun k => (k, if k = p + 2 then [p + 1] else [])
def sgM (n p : Nat) : List Nat := (List.range n).map (swI (p + 1))
def txM (n p : Nat) : List (Nat × List Nat) := (List.range n).map fun k => (swI (p + 1) k, if k = p + 1 then [p] else if k = p + 2 then [p + 1] else [])
def sgB (n p : Nat) : List Nat := (List.range n).map fun i => if i = p then p + 1 else if i = p + 1 then p + 2 else if i = p + 2 then p else i
def txB (n p : Nat) : List (Nat × List Nat) := (List.range n).map fun k => (if k = p then p + 2 else if k = p + 1 then p else if k = p + 2 then p + 1 else k, if k = p + 1 then [p] else [])
def vA (l : List Oper) (o0 : Oper) (p : Nat) : List Oper := mkV l o0 (sgA l.length p) (txA l.length p)
def vM (l : List Oper) (o0 : Oper) (p : Nat) : List Oper := mkV l o0 (sgM l.length p) (txM l.length p)
def vB (l : List Oper) (o0 : Oper) (p : Nat) : List Oper := mkV l o0 (sgB l.length p) (txB l.length p)
def ok3 (l : List Oper) (o0 : Oper) (N p : Nat) (c : List Nat) (c1 : Nat) (cA cM cB : List Nat) : Bool :=
 okV l.length (sgA l.length p) (txA l.length p) [p + 1] && (okV l.length (sgM l.length p) (txM l.length p) [p, p + 1] && (okV l.length (sgB l.length p) (txB l.length p) [p] &&
 (okD (vA l o0 p) (c ++ c1 :: cA) && (okD (vM l o0 p) (c ++ c1 :: cM) && (okD (vB l o0 p) (c ++ cB) && (dstsLt (vA l o0 p) N && (dstsLt (vM l o0 p) N && (dstsLt (vB l o0 p) N &&
 (decide (c.length = p) && (c.all (fun x => x != 2) && (c1 != 2 && (decide (p + 2 < l.length) &&
 ((List.range l.length).all (fun k => match l[k]? with
  | none => false
  | some o => (decide (k < p + 3) || o.after.toList.any fun e => Region.binds .any e && decide (p + 1 ≤ e.on)) && ((decide (p + 1 < k) || o.after.toList.all fun e => !Region.binds .any e || decide (e.on < p + 1)) && (decide (p < k) || match o.guard with
   | none => true
   | some x => decide (x.1 < p)))))))))))))))))
theorem at_map {n p : Nat} {f : Nat → Nat × List Nat} {k : Nat} (h : k < n) : ((List.range n).map f)[k]? = some (f k) := by
 rw [List.getElem?_map, List.getElem?_range h]; rfl
theorem tu_map {n : Nat} {f : Nat → Nat × List Nat} {k : Nat} : tu ((List.range n).map f) k = if k < n then (f k).1 else k := by
 unfold tu
 rw [List.getD_eq_getElem?_getD]
 by_cases h : k < n
 ·rw [at_map (p := 0) h, if_pos h]; rfl
 ·rw [List.getElem?_eq_none (by simp; omega), if_neg h]; rfl
theorem aw_draw3 {P : Program} {N n0 : Nat} {fr : Frm} {H : Mem} {Q : Exit → Frm → Mem → Prop} {id : Nat} {l : List Oper} (hm : P.follows .mixedOrders = true) (o0 : Oper) (σ0 : List Nat) (tx0 : List (Nat × List Nat)) (p : Nat) (c : List Nat) (c1 : Nat) (cA cM cB : List Nat)
  {l0 pre sA sM sB s0 : List Oper} {o1 : Oper} (hv : okV l.length σ0 tx0 [] = true) (h0 : mkV l o0 σ0 tx0 = l0) (hok : ok3 l0 o0 N p c c1 cA cM cB = true)
  (hp : pre.length = p) (e0 : l0 = pre ++ o1 :: s0) (eA : vA l0 o0 p = pre ++ o1 :: sA) (eM : vM l0 o0 p = pre ++ o1 :: sM) (eB : vB l0 o0 p = pre ++ sB) (J : Mem → Prop) (hJ : J H)
  (h : DRun P J false l0.toArray c pre fr H H (fun fr' H' => DRun P J false (vB l0 o0 p).toArray cB sB fr' H H' (fun fr H => Q .normal fr H) ∧ DRun P J false l0.toArray [c1] [o1] fr' H H' (fun fr' H' =>
   DRun P J false (vA l0 o0 p).toArray cA sA fr' H H' (fun fr H => Q .normal fr H) ∧ DRun P J false (vM l0 o0 p).toArray cM sM fr' H H' (fun fr H => Q .normal fr H)))) :
  aw P N n0 (.region id l.toArray true) fr H Q := fun g w a hl hd hf hmr => by
 have hlen0 : l0.length = l.length := by rw [← h0]; exact mkV_len hv
 unfold ok3 at hok
 simp only [Bool.and_eq_true, List.all_eq_true, decide_eq_true_eq, bne_iff_ne, List.mem_range] at hok
 obtain ⟨vokA, vokM, vokB, okA, okM, okB, ltA, ltM, ltB, hcl, hc2, hc1, hpl, hops⟩ := hok
 have lenA : (vA l0 o0 p).length = l0.length := mkV_len (l := l0) (o0 := o0) vokA
 have lenM : (vM l0 o0 p).length = l0.length := mkV_len (l := l0) (o0 := o0) vokM
 have lenB : (vB l0 o0 p).length = l0.length := mkV_len (l := l0) (o0 := o0) vokB
 have loP : ∀ {r : List Oper} {i : Nat}, i < p → (pre ++ r)[i]? = pre[i]? := fun h => List.getElem?_append_left (by omega)
 have atP : ∀ {r : List Oper}, (pre ++ o1 :: r)[p]? = some o1 := fun {r} => by rw [List.getElem?_append_right (by omega), hp]; simp
 have same : ∀ {r r' : List Oper} (i : Nat), i < p + 1 → (pre ++ o1 :: r)[i]? = (pre ++ o1 :: r')[i]? := fun {r r'} i hi => by
  rcases Nat.lt_or_ge i p with h | h
  ·rw [loP h, loP h]
  ·have : i = p := by omega
   subst this
   rw [atP, atP]
 have hgd : ∀ i, i < p + 1 → ∀ o, l0[i]? = some o → ∀ j b, o.guard = some (j, b) → j < p := fun i hi o ho j b hg => by
  have := hops i (by omega)
  rw [ho] at this
  simp only [hg, Bool.and_eq_true, Bool.or_eq_true, decide_eq_true_eq] at this
  rcases this.2.2 with h | h
  ·omega
  ·exact h
 have g0 : ∀ (r : List Oper), (∀ i, i < p → (r[i]?).map Oper.dst = (l0[i]?).map Oper.dst) → ∀ i, i < p + 1 → ∀ o, l0[i]? = some o → ∀ fr, agd r.toArray fr o = agd l0.toArray fr o := fun r hr i hi o ho => agd_same fun j b hg => by
  have q := hr j (hgd i hi o ho j b hg)
  simp only [List.getElem?_toArray]
  cases h1 : r[j]? with
  | none => cases h2 : l0[j]? with
   | none => rfl
   | some x => rw [h1, h2] at q; cases q
  | some y => cases h2 : l0[j]? with
   | none => rw [h1, h2] at q; cases q
   | some x => rw [h1, h2] at q; simpa using q
 have hmem : ∀ o ∈ pre, ∃ i, i < p ∧ l0[i]? = some o := fun o ho => by
  obtain ⟨i, hi, rfl⟩ := List.mem_iff_getElem.1 ho
  exact ⟨i, by omega, by rw [e0, loP (by omega)]; exact List.getElem?_eq_getElem hi⟩
 have gA : ∀ i, i < p + 1 → ∀ o, l0[i]? = some o → ∀ fr, agd (vA l0 o0 p).toArray fr o = agd l0.toArray fr o := g0 _ fun i hi => by rw [eA, e0, loP hi, loP hi]
 have gM : ∀ i, i < p + 1 → ∀ o, l0[i]? = some o → ∀ fr, agd (vM l0 o0 p).toArray fr o = agd l0.toArray fr o := g0 _ fun i hi => by rw [eM, e0, loP hi, loP hi]
 have gB : ∀ i, i < p + 1 → ∀ o, l0[i]? = some o → ∀ fr, agd (vB l0 o0 p).toArray fr o = agd l0.toArray fr o := g0 _ fun i hi => by rw [eB, e0, loP hi, loP hi]
 have at1 : l0[p]? = some o1 := by rw [e0, atP]
 obtain ⟨fr1, H1, R0, M0, ⟨hB, hmid⟩, T1⟩ := Trace.pre (by omega) (fun i hi => by
  rw [List.getD_eq_getElem?_getD, List.getElem?_eq_getElem (by omega)]
  exact hc2 _ (List.getElem_mem _)) h
 obtain ⟨FB', RB', MB', BB', tB', b1, b2, b3, kB'⟩ := Trace.of_run hB
 obtain ⟨FB, RB, MB, BB, tB, fB, mB, bB, rB0, mB0, FBj, RBj, MBj⟩ := T1 _ _ _ FB' RB' MB' BB' (fun o ho fr => by obtain ⟨i, hi, hio⟩ := hmem o ho; exact gB i (by omega) o hio fr) tB' b1 b2 b3
 obtain ⟨fr2, H2, R1, M1, ⟨hA, hM⟩, T2⟩ := Trace.pre (pre := [o1]) rfl (fun i hi => by
  have : i = 0 := by simpa using hi
  subst this; exact hc1) hmid
 obtain ⟨FA2, RA2, MA2, BA2, tA2, a1, a2, a3, kA2⟩ := Trace.of_run hA
 obtain ⟨FM2, RM2, MM2, BM2, tM2, d1, d2, d3, kM2⟩ := Trace.of_run hM
 obtain ⟨FA1, RA1, MA1, BA1, tA1, a4, a5, a6, a7, a8, FA1j, RA1j, MA1j⟩ := T2 _ _ _ FA2 RA2 MA2 BA2 (fun o ho fr => (List.mem_singleton.1 ho) ▸ gA p (by omega) o1 at1 fr) tA2 a1 a2 a3
 obtain ⟨FM1, RM1, MM1, BM1, tM1, d4, d5, d6, d7, d8, FM1j, RM1j, MM1j⟩ := T2 _ _ _ FM2 RM2 MM2 BM2 (fun o ho fr => (List.mem_singleton.1 ho) ▸ gM p (by omega) o1 at1 fr) tM2 d1 d2 d3
 obtain ⟨FA, RA, MA, BA, tA, fA, mA, bA, rA0, mA0, FAj, RAj, MAj⟩ := T1 _ _ _ FA1 RA1 MA1 BA1 (fun o ho fr => by obtain ⟨i, hi, hio⟩ := hmem o ho; exact gA i (by omega) o hio fr) tA1 a4 a5 a6
 obtain ⟨FM, RM, MM, BM, tM, fM, mM, bM, rM0, mM0, FMj, RMj, MMj⟩ := T1 _ _ _ FM1 RM1 MM1 BM1 (fun o ho fr => by obtain ⟨i, hi, hio⟩ := hmem o ho; exact gM i (by omega) o hio fr) tM1 d4 d5 d6
 have kA : Q .normal (FA (vA l0 o0 p).length) (MA (vA l0 o0 p).length) := by
  rw [eA, List.length_append, FAj, MAj, show (o1 :: sA).length = [o1].length + sA.length by simp; omega, FA1j, MA1j]; exact kA2
 have kM : Q .normal (FM (vM l0 o0 p).length) (MM (vM l0 o0 p).length) := by
  rw [eM, List.length_append, FMj, MMj, show (o1 :: sM).length = [o1].length + sM.length by simp; omega, FM1j, MM1j]; exact kM2
 have kB : Q .normal (FB (vB l0 o0 p).length) (MB (vB l0 o0 p).length) := by
  rw [eB, List.length_append, FBj, MBj]; exact kB'
 have tA : Trace P J false (vA l0 o0 p).toArray (vA l0 o0 p) (c ++ c1 :: cA) FA RA MA BA := by
  have q : vA l0 o0 p = pre ++ ([o1] ++ sA) := eA
  rw [← q] at tA; exact tA
 have tM : Trace P J false (vM l0 o0 p).toArray (vM l0 o0 p) (c ++ c1 :: cM) FM RM MM BM := by
  have q : vM l0 o0 p = pre ++ ([o1] ++ sM) := eM
  rw [← q] at tM; exact tM
 have tB : Trace P J false (vB l0 o0 p).toArray (vB l0 o0 p) (c ++ cB) FB RB MB BB := by
  rw [← eB] at tB; exact tB
 have rMA : ∀ k, k < p + 1 → RM k = RA k := fun k hk => by
  rcases Nat.lt_or_ge k p with h | h
  ·rw [rM0 k (by omega), rA0 k (by omega)]
  ·have : k = pre.length + 0 := by omega
   rw [this, RMj, RAj, d7 0 (by simp), a7 0 (by simp)]
 have mMA : ∀ k, k ≤ p + 1 → MM k = MA k := fun k hk => by
  rcases Nat.lt_or_ge k (p + 1) with h | h
  ·rw [mM0 k (by omega), mA0 k (by omega)]
  ·have : k = pre.length + 1 := by omega
   rw [this, MMj, MAj, d8 1 (by simp), a8 1 (by simp)]
 have rBA : ∀ k, k < p → RB k = RA k := fun k hk => by rw [rB0 k (by omega), rA0 k (by omega)]
 have mBA : ∀ k, k ≤ p → MB k = MA k := fun k hk => by rw [mB0 k (by omega), mA0 k (by omega)]
 have clo : ∀ (r r' : List Nat) k, k < p → (c ++ r).getD k 0 = (c ++ r').getD k 0 := fun r r' k hk => by
  rw [List.getD_eq_getElem?_getD, List.getD_eq_getElem?_getD, List.getElem?_append_left (by omega), List.getElem?_append_left (by omega)]
 have clo1 : ∀ (r r' : List Nat) k, k < p + 1 → (c ++ c1 :: r).getD k 0 = (c ++ c1 :: r').getD k 0 := fun r r' k hk => by
  rcases Nat.lt_or_ge k p with h | h
  ·exact clo _ _ k h
  ·have : k = p := by omega
   subst this
   rw [List.getD_eq_getElem?_getD, List.getD_eq_getElem?_getD, List.getElem?_append_right (by omega), List.getElem?_append_right (by omega), hcl]; simp
 have sA1 : ∀ i, i < p + 1 → (vA l0 o0 p)[i]? = l0[i]? := fun i hi => by rw [eA, e0]; exact same i hi
 have oq : ∃ o, l0[p + 1]? = some o := ⟨_, List.getElem?_eq_getElem (by omega)⟩
 obtain ⟨oq, hoq⟩ := oq
 have sAt : ∀ i, i < l0.length → sg (sgA l0.length p) i = i := fun i hi => by
  unfold sg sgA
  rw [List.getD_eq_getElem?_getD, List.getElem?_range hi]; rfl
 have sMt : ∀ i, i < l0.length → sg (sgM l0.length p) i = swI (p + 1) i := fun i hi => by
  unfold sg sgM
  rw [List.getD_eq_getElem?_getD, List.getElem?_map, List.getElem?_range hi]; rfl
 have sBt : ∀ i, i < l0.length → sg (sgB l0.length p) i = if i = p then p + 1 else if i = p + 1 then p + 2 else if i = p + 2 then p else i := fun i hi => by
  unfold sg sgB
  rw [List.getD_eq_getElem?_getD, List.getElem?_map, List.getElem?_range hi]; rfl
 have main := main3 (P := P) (l := l0) (QQ := CR N n0 g w Q) (n0 := n0) (g0 := g) (w0 := w) (p + 1) tA (bA.trans mA.symm) (by rw [mA]; exact hJ) (okD_spec okA) ltA lenA sA1 (fun i o hi ho fr => (gA i hi o ho fr).symm) oq hoq (fun e he hb => by
   have := hops (p + 1) (by omega)
   rw [hoq] at this
   simp only [Bool.and_eq_true, Bool.or_eq_true, decide_eq_true_eq, List.all_eq_true, Bool.not_eq_true'] at this
   rcases this.2.1 with h | h
   ·omega
   ·rcases h e (Array.mem_toList_iff.2 he) with h | h
    ·rw [hb] at h; cases h
    ·exact h) (fun fuel x fr1 H1 g1 w1 a1 hsz hc hx hD hd hf hm he hn i hi hir => by
  obtain ⟨his, hin, o, ho, hpe⟩ := rdy.1 hir
  have hm2 : ∀ q, q ≤ p + 1 → (∀ i, x.getD i false = true → i < q) → ∃ m, m ≤ q ∧ (∀ j, j < (vA l0 o0 p).length → 2 ≤ (c ++ c1 :: cA).getD j 0 → (x.getD j false = true ↔ j < m)) ∧ H1 = MA m := fun q hq hxq => by
   obtain ⟨m, q1, q2, q3⟩ := hD.mem
   have q4 : ∀ j, j < (vA l0 o0 p).length → 2 ≤ (c ++ c1 :: cA).getD j 0 → (x.getD j false = true ↔ j < min m q) := fun j hj hj2 =>
    ⟨fun h => by have := hxq j h; have := (q2 j hj hj2).1 h; omega, fun h => (q2 j hj hj2).2 (by omega)⟩
   exact ⟨min m q, by omega, q4, hD.mem' tA (min m q) (by omega) q4⟩
  have hcq : ∀ (cV : List Nat) (n q : Nat), q ≤ (vA l0 o0 p).length → (∀ i, x.getD i false = true → i < q) → (∀ k, k < q → cV.getD k 0 = (c ++ c1 :: cA).getD k 0) → ∀ m, m ≤ q → (∀ j, j < (vA l0 o0 p).length → 2 ≤ (c ++ c1 :: cA).getD j 0 → (x.getD j false = true ↔ j < m)) → ∀ j, j < n → 2 ≤ cV.getD j 0 → (x.getD j false = true ↔ j < m) := fun cV n q hql hxq hcc m hmq hm j hj hj2 => by
   rcases Nat.lt_or_ge j q with h | h
   ·exact hm j (by omega) (by rw [← hcc j h]; exact hj2)
   ·exact ⟨fun h2 => by have := hxq j h2; omega, fun h2 => by omega⟩
  rcases Nat.lt_or_ge i (p + 3) with hi3 | hi3
  ·rcases (show i = p + 1 ∨ i = p + 2 by omega) with rfl | rfl
   ·
    refine reveal (lA := vA l0 o0 p) (lV := vA l0 o0 p) (p + 1) (p + 1) vokA rfl (fun k hk => ?_) (fun k hk => ?_) lenA (by omega) (fun k hk => rfl) rfl (fun k hk => rfl) (fun k hk => rfl) (fun k hk => rfl) tA (bA.trans mA.symm) (by rw [mA]; exact hJ) (okD_spec okA) ltA (fun g' w' a' d f m e n => ⟨d, _, _, g', kA, f, m, e, n⟩) hsz hc hx (hm2 _ (Nat.le_refl _) hx) hD
     (hcq _ _ (p + 1) (by omega) hx fun k hk => rfl) hd hf hm he hn hir (fun ex hex k hk => ?_) (fun k hk => .inl ?_)
    ·rw [txA, tu_map]; split <;> rfl
    ·rw [txA, tu_map]; split <;> exact hk
    ·rw [sAt _ (by omega), txA, at_map (p := p) (by omega), if_neg (by omega)] at hex
     cases hex; cases hk
    ·rw [sAt _ (by omega)]; simpa using hk
   ·by_cases hxp : x.getD p false = true
    ·
     refine reveal (lA := vA l0 o0 p) (lV := vM l0 o0 p) (p + 1) (p + 2) vokM rfl (fun k hk => ?_) (fun k hk => ?_) lenA (by omega) (fun k hk => by rw [eM, eA]; exact same k hk) (fM.trans fA.symm) rMA mMA (clo1 _ _) tM (bM.trans mM.symm) (by rw [mM]; exact hJ) (okD_spec okM) ltM (fun g' w' a' d f m e n => ⟨d, _, _, g', kM, f, m, e, n⟩) hsz hc hx (hm2 _ (Nat.le_refl _) hx) hD
      (hcq _ _ (p + 1) (by omega) hx (clo1 _ _)) hd hf hm he hn hir (fun ex hex k hk => ?_) (fun k hk => ?_)
     ·rw [txM, tu_map, swI_lo hk]; split <;> rfl
     ·rw [txM, tu_map]
      split
      ·show p + 1 ≤ swI (p + 1) k
       unfold swI; split
       ·omega
       ·split <;> omega
      ·exact hk
     ·rw [sMt _ (by omega), swI_q, txM, at_map (p := p) (by omega), if_pos rfl] at hex
      have hex := congrArg (fun z : Option (Nat × List Nat) => z.map Prod.snd) hex
      simp only [Option.map_some, Option.some.injEq] at hex
      rw [← hex] at hk
      have : k = p := by simpa using hk
      rw [this]; exact hxp
     ·rw [sMt _ (by omega), swI_q]
      simp only [List.mem_cons, List.not_mem_nil, or_false] at hk
      rcases hk with rfl | rfl
      ·exact .inr ⟨by omega, hxp⟩
      ·exact .inl rfl
    ·
     have hx0 : ∀ i, x.getD i false = true → i < p := fun i h => by
      have := hx i h
      by_cases e : i = p
      ·rw [e] at h; exact absurd h hxp
      ·omega
     refine reveal (lA := vA l0 o0 p) (lV := vB l0 o0 p) p (p + 2) vokB rfl (fun k hk => ?_) (fun k hk => ?_) lenA (by omega) (fun k hk => by rw [eB, eA, loP hk, loP hk]) (fB.trans fA.symm) rBA mBA (clo _ _) tB (bB.trans mB.symm) (by rw [mB]; exact hJ) (okD_spec okB) ltB (fun g' w' a' d f m e n => ⟨d, _, _, g', kB, f, m, e, n⟩) hsz hc hx0 (hm2 _ (by omega) hx0) hD
      (hcq _ _ p (by omega) hx0 (clo _ _)) hd hf hm he hn hir (fun ex hex k hk => ?_) (fun k hk => .inl ?_)
     ·rw [txB, tu_map]
      split
      ·show (if k = p then p + 2 else if k = p + 1 then p else if k = p + 2 then p + 1 else k) = k
       rw [if_neg (by omega), if_neg (by omega), if_neg (by omega)]
      ·rfl
     ·rw [txB, tu_map]
      split
      ·show p ≤ (if k = p then p + 2 else if k = p + 1 then p else if k = p + 2 then p + 1 else k)
       split
       ·omega
       ·split
        ·omega
        ·split <;> omega
      ·exact hk
     ·rw [sBt _ (by omega), if_neg (by omega), if_neg (by omega), if_pos rfl, txB, at_map (p := p) (by omega), if_pos rfl, if_neg (by omega)] at hex
      cases hex; cases hk
     ·rw [sBt _ (by omega), if_neg (by omega), if_neg (by omega), if_pos rfl]; simpa using hk
  ·
   exfalso
   have := hops i (by omega)
   rw [ho] at this
   simp only [Bool.and_eq_true, Bool.or_eq_true, decide_eq_true_eq, List.any_eq_true] at this
   rcases this.1 with h | ⟨e, he, hb, hge⟩
   ·omega
   ·have := hx _ (hpe e (Array.mem_toList_iff.1 he) hb)
    omega)
 refine wp_region_any hm ?_
 have hrep : ∀ (n i : Nat), (Array.replicate n false).getD i false = false := fun n i => by
  simp [Array.getElem?_replicate]; split <;> rfl
 refine sim_V (o0 := o0) hv _ _ (Array.replicate l.toArray.size false) a _ (fun k hk => by cases hk) (fun i => by rw [hrep, hrep]) (by simp) (by simp) ?_
 rw [h0]
 refine main _ _ fr H g _ a (by simp [lenA, hlen0]) (by simp) (fun i hi => ?_) ?_ hd hf hmr.drawn ⟨.refl _ _, fun _ _ h => ⟨h, rfl⟩, Nat.le_refl _, rfl, rfl, rfl⟩ hl
 ·rw [hrep] at hi; cases hi
 refine ⟨fun i o _ hD => ?_, fun i o t _ hD => ?_, fun t _ => by rw [fA], 0, Nat.zero_le _, fun j hj _ => ⟨fun hD => ?_, fun h => absurd h (Nat.not_lt_zero _)⟩, mA.symm⟩
 ·rw [hrep] at hD; cases hD
 ·rw [hrep] at hD; cases hD
 ·rw [hrep] at hD; cases hD
theorem aw_draw3L {P : Program} {N n0 : Nat} {fr : Frm} {H : Mem} {Q : Exit → Frm → Mem → Prop} {id : Nat} {l : List Oper} (hm : P.follows .mixedOrders = true) {o0 : Oper} (hl0 : l[0]? = some o0) (σ0 tx : List Nat) (p : Nat) (c : List Nat) (c1 : Nat) (cA cM cB : List Nat)
  {o1 : Oper} (h1 : (mkV l o0 σ0 (tx.map fun k => (k, [])))[p]? = some o1) (hv : okV l.length σ0 (tx.map fun k => (k, [])) [] = true) (hok : ok3 (mkV l o0 σ0 (tx.map fun k => (k, []))) o0 N p c c1 cA cM cB = true)
  (eA : (vA (mkV l o0 σ0 (tx.map fun k => (k, []))) o0 p).take (p + 1) = (mkV l o0 σ0 (tx.map fun k => (k, []))).take (p + 1)) (eM : (vM (mkV l o0 σ0 (tx.map fun k => (k, []))) o0 p).take (p + 1) = (mkV l o0 σ0 (tx.map fun k => (k, []))).take (p + 1)) (eB : (vB (mkV l o0 σ0 (tx.map fun k => (k, []))) o0 p).take p = (mkV l o0 σ0 (tx.map fun k => (k, []))).take p) (J : Mem → Prop) (hJ : J H)
  (h : DRun P J false (mkV l o0 σ0 (tx.map fun k => (k, []))).toArray c ((mkV l o0 σ0 (tx.map fun k => (k, []))).take p) fr H H (fun fr' H' => DRun P J false (vB (mkV l o0 σ0 (tx.map fun k => (k, []))) o0 p).toArray cB ((vB (mkV l o0 σ0 (tx.map fun k => (k, []))) o0 p).drop p) fr' H H' (fun fr H => Q .normal fr H) ∧
   DRun P J false (mkV l o0 σ0 (tx.map fun k => (k, []))).toArray [c1] [o1] fr' H H' (fun fr' H' =>
   DRun P J false (vA (mkV l o0 σ0 (tx.map fun k => (k, []))) o0 p).toArray cA ((vA (mkV l o0 σ0 (tx.map fun k => (k, []))) o0 p).drop (p + 1)) fr' H H' (fun fr H => Q .normal fr H) ∧
   DRun P J false (vM (mkV l o0 σ0 (tx.map fun k => (k, []))) o0 p).toArray cM ((vM (mkV l o0 σ0 (tx.map fun k => (k, []))) o0 p).drop (p + 1)) fr' H H' (fun fr H => Q .normal fr H)))) :
  aw P N n0 (.region id l.toArray true) fr H Q := by
 generalize hl : mkV l o0 σ0 (tx.map fun k => (k, [])) = l0 at *
 have hp : p < l0.length := (List.getElem?_eq_some_iff.1 h1).1
 have ho1 : l0[p] = o1 := (List.getElem?_eq_some_iff.1 h1).2
 have e1 : l0.take (p + 1) = l0.take p ++ [o1] := by rw [List.take_add_one, h1]; rfl
 have e0 : l0 = l0.take p ++ o1 :: l0.drop (p + 1) := by
  conv => lhs; rw [← List.take_append_drop (p + 1) l0, e1, List.append_assoc]
  rfl
 have k2 : ∀ r : List Oper, r.take (p + 1) = l0.take (p + 1) → r = l0.take p ++ o1 :: r.drop (p + 1) := fun r hr => by
  conv => lhs; rw [← List.take_append_drop (p + 1) r, hr, e1, List.append_assoc]
  rfl
 exact aw_draw3 hm o0 σ0 (tx.map fun k => (k, [])) p c c1 cA cM cB hv hl hok (by rw [List.length_take]; omega) e0 (k2 _ eA) (k2 _ eM) (by conv => lhs; rw [← List.take_append_drop p (vB l0 o0 p), eB]) J hJ h
end Go.Proofs.Ytgdbmgnfaefhoaa.Am
namespace Go.Proofs.Ytgdbmgnfaefhoaa.Am
open Go
theorem ti2 : tinf Try.prog 2 = some (1, 8, some (.int .i64 0)) := by kernel_rfl
theorem ag2 : aggT Try.prog 2 = some false := by kernel_rfl
theorem ti3 : tinf Try.prog 3 = some (1, 8, some (.int .i64 0)) := by kernel_rfl
theorem ag3 : aggT Try.prog 3 = some false := by kernel_rfl
theorem ti4 : tinf Try.prog 4 = some (1, 1, some (.bool false)) := by kernel_rfl
theorem ag4 : aggT Try.prog 4 = some false := by kernel_rfl
theorem ti5 : tinf Try.prog 5 = some (1, 1, some (.int .u8 0)) := by kernel_rfl
theorem ag5 : aggT Try.prog 5 = some false := by kernel_rfl
theorem ti22 : tinf Try.prog 22 = some (1, 24, some (.slice none 0 0)) := by kernel_rfl
theorem ag22 : aggT Try.prog 22 = some false := by kernel_rfl
theorem ti24 : tinf Try.prog 24 = some (5, 56, some (.agg #[(.int .i64 0), (.int .i64 0), (.int .i64 0), (.int .i64 0), (.slice none 0 0)])) := by kernel_rfl
theorem ag24 : aggT Try.prog 24 = some true := by kernel_rfl
theorem ti25 : tinf Try.prog 25 = some (1, 24, some (.slice none 0 0)) := by kernel_rfl
theorem ag25 : aggT Try.prog 25 = some false := by kernel_rfl
theorem ti26 : tinf Try.prog 26 = some (1, 24, some (.slice none 0 0)) := by kernel_rfl
theorem ag26 : aggT Try.prog 26 = some false := by kernel_rfl
theorem ti29 : tinf Try.prog 29 = some (2, 32, some (.agg #[(.int .i64 0), (.slice none 0 0)])) := by kernel_rfl
theorem ag29 : aggT Try.prog 29 = some true := by kernel_rfl
theorem ti32 : tinf Try.prog 32 = some (1, 8, some (.int .i64 0)) := by kernel_rfl
theorem ti43 : tinf Try.prog 43 = some (1, 24, some (.slice none 0 0)) := by kernel_rfl
theorem ag43 : aggT Try.prog 43 = some false := by kernel_rfl
theorem ti45 : tinf Try.prog 45 = some (1, 24, some (.agg #[(.slice none 0 0)])) := by kernel_rfl
theorem ti46 : tinf Try.prog 46 = some (1, 24, some (.slice none 0 0)) := by kernel_rfl
theorem ag46 : aggT Try.prog 46 = some false := by kernel_rfl
theorem ti47 : tinf Try.prog 47 = some (1, 24, some (.slice none 0 0)) := by kernel_rfl
theorem ag47 : aggT Try.prog 47 = some false := by kernel_rfl
theorem ti49 : tinf Try.prog 49 = some (11, 136, some (.agg #[(.int .i64 0), (.int .i64 0), (.int .i64 0), (.int .i64 0), (.slice none 0 0), (.int .i64 0), (.int .i64 0), (.bool false), (.int .i64 0), (.slice none 0 0), (.slice none 0 0)])) := by kernel_rfl
theorem ag49 : aggT Try.prog 49 = some true := by kernel_rfl
theorem ti57 : tinf Try.prog 57 = some (10, 112, some (.agg #[(.int .i64 0), (.int .i64 0), (.int .i64 0), (.int .i64 0), (.int .i64 0), (.slice none 0 0), (.int .i64 0), (.int .i64 0), (.int .i64 0), (.slice none 0 0)])) := by kernel_rfl
theorem ag57 : aggT Try.prog 57 = some true := by kernel_rfl
theorem ti59 : tinf Try.prog 59 = some (5, 56, some (.agg #[(.int .i64 0), (.int .i64 0), (.int .i64 0), (.int .i64 0), (.slice none 0 0)])) := by kernel_rfl
theorem ag59 : aggT Try.prog 59 = some true := by kernel_rfl
theorem ti109 : tinf Try.prog 109 = some (2, 32, some (.agg #[(.int .i64 0), (.slice none 0 0)])) := by kernel_rfl
theorem ag109 : aggT Try.prog 109 = some true := by kernel_rfl
theorem ti120 : tinf Try.prog 120 = some (1, 8, some (.int .u64 0)) := by kernel_rfl
theorem ag120 : aggT Try.prog 120 = some false := by kernel_rfl
theorem ti130 : tinf Try.prog 130 = some (2, 32, some (.agg #[(.slice none 0 0), (.int .i64 0)])) := by kernel_rfl
def pl24 (i : Nat) : Option (Nat × Nat) := [(0, 1), (1, 1), (2, 1), (3, 1), (4, 1)][i]?
theorem fp24 (fs : Array Field) (h : Try.prog.underlying 24 = some (.struct fs)) : ∀ i, fplace Try.prog fs i = pl24 i := by
 rw [Try.underlying24] at h
 cases h
 intro i
 match i with
 | 0 => simp [fplace, pl24, ti3]
 | 1 => simp [fplace, pl24, ti3]
 | 2 => simp [fplace, pl24, ti2]
 | 3 => simp [fplace, pl24, ti2]
 | 4 => simp [fplace, pl24, ti22]
 | n + 5 => simp [fplace, pl24]
theorem fa24 (fs : Array Field) (h : Try.prog.underlying 24 = some (.struct fs)) : fs.all (fun f => (tinf Try.prog f.type).isSome) = true := by
 rw [Try.underlying24] at h
 cases h
 simp [ti2, ti22, ti3]
def pl29 (i : Nat) : Option (Nat × Nat) := [(0, 1), (1, 1)][i]?
theorem fp29 (fs : Array Field) (h : Try.prog.underlying 29 = some (.struct fs)) : ∀ i, fplace Try.prog fs i = pl29 i := by
 rw [Try.underlying29] at h
 cases h
 intro i
 match i with
 | 0 => simp [fplace, pl29, ti3]
 | 1 => simp [fplace, pl29, ti25]
 | n + 2 => simp [fplace, pl29]
theorem fa29 (fs : Array Field) (h : Try.prog.underlying 29 = some (.struct fs)) : fs.all (fun f => (tinf Try.prog f.type).isSome) = true := by
 rw [Try.underlying29] at h
 cases h
 simp [ti25, ti3]
def pl45 (i : Nat) : Option (Nat × Nat) := [(0, 1)][i]?
theorem fp45 (fs : Array Field) (h : Try.prog.underlying 45 = some (.struct fs)) : ∀ i, fplace Try.prog fs i = pl45 i := by
 rw [Try.underlying45] at h
 cases h
 intro i
 match i with
 | 0 => simp [fplace, pl45, ti43]
 | n + 1 => simp [fplace, pl45]
theorem fa45 (fs : Array Field) (h : Try.prog.underlying 45 = some (.struct fs)) : fs.all (fun f => (tinf Try.prog f.type).isSome) = true := by
 rw [Try.underlying45] at h
 cases h
 simp [ti43]
def pl49 (i : Nat) : Option (Nat × Nat) := [(0, 1), (1, 1), (2, 1), (3, 1), (4, 1), (5, 1), (6, 1), (7, 1), (8, 1), (9, 1), (10, 1)][i]?
theorem fp49 (fs : Array Field) (h : Try.prog.underlying 49 = some (.struct fs)) : ∀ i, fplace Try.prog fs i = pl49 i := by
 rw [Try.underlying49] at h
 cases h
 intro i
 match i with
 | 0 => simp [fplace, pl49, ti3]
 | 1 => simp [fplace, pl49, ti3]
 | 2 => simp [fplace, pl49, ti3]
 | 3 => simp [fplace, pl49, ti3]
 | 4 => simp [fplace, pl49, ti26]
 | 5 => simp [fplace, pl49, ti3]
 | 6 => simp [fplace, pl49, ti3]
 | 7 => simp [fplace, pl49, ti4]
 | 8 => simp [fplace, pl49, ti2]
 | 9 => simp [fplace, pl49, ti46]
 | 10 => simp [fplace, pl49, ti47]
 | n + 11 => simp [fplace, pl49]
theorem fa49 (fs : Array Field) (h : Try.prog.underlying 49 = some (.struct fs)) : fs.all (fun f => (tinf Try.prog f.type).isSome) = true := by
 rw [Try.underlying49] at h
 cases h
 simp [ti2, ti26, ti3, ti4, ti46, ti47]
def pl57 (i : Nat) : Option (Nat × Nat) := [(0, 1), (1, 1), (2, 1), (3, 1), (4, 1), (5, 1), (6, 1), (7, 1), (8, 1), (9, 1)][i]?
theorem fp57 (fs : Array Field) (h : Try.prog.underlying 57 = some (.struct fs)) : ∀ i, fplace Try.prog fs i = pl57 i := by
 rw [Try.underlying57] at h
 cases h
 intro i
 match i with
 | 0 => simp [fplace, pl57, ti3]
 | 1 => simp [fplace, pl57, ti3]
 | 2 => simp [fplace, pl57, ti3]
 | 3 => simp [fplace, pl57, ti3]
 | 4 => simp [fplace, pl57, ti3]
 | 5 => simp [fplace, pl57, ti26]
 | 6 => simp [fplace, pl57, ti3]
 | 7 => simp [fplace, pl57, ti2]
 | 8 => simp [fplace, pl57, ti3]
 | 9 => simp [fplace, pl57, ti22]
 | n + 10 => simp [fplace, pl57]
theorem fa57 (fs : Array Field) (h : Try.prog.underlying 57 = some (.struct fs)) : fs.all (fun f => (tinf Try.prog f.type).isSome) = true := by
 rw [Try.underlying57] at h
 cases h
 simp [ti2, ti22, ti26, ti3]
def pl59 (i : Nat) : Option (Nat × Nat) := [(0, 1), (1, 1), (2, 1), (3, 1), (4, 1)][i]?
theorem fp59 (fs : Array Field) (h : Try.prog.underlying 59 = some (.struct fs)) : ∀ i, fplace Try.prog fs i = pl59 i := by
 rw [Try.underlying59] at h
 cases h
 intro i
 match i with
 | 0 => simp [fplace, pl59, ti32]
 | 1 => simp [fplace, pl59, ti2]
 | 2 => simp [fplace, pl59, ti2]
 | 3 => simp [fplace, pl59, ti3]
 | 4 => simp [fplace, pl59, ti25]
 | n + 5 => simp [fplace, pl59]
theorem fa59 (fs : Array Field) (h : Try.prog.underlying 59 = some (.struct fs)) : fs.all (fun f => (tinf Try.prog f.type).isSome) = true := by
 rw [Try.underlying59] at h
 cases h
 simp [ti2, ti25, ti3, ti32]
def pl109 (i : Nat) : Option (Nat × Nat) := [(0, 1), (1, 1)][i]?
theorem fp109 (fs : Array Field) (h : Try.prog.underlying 109 = some (.struct fs)) : ∀ i, fplace Try.prog fs i = pl109 i := by
 rw [Try.underlying109] at h
 cases h
 intro i
 match i with
 | 0 => simp [fplace, pl109, ti2]
 | 1 => simp [fplace, pl109, ti22]
 | n + 2 => simp [fplace, pl109]
theorem fa109 (fs : Array Field) (h : Try.prog.underlying 109 = some (.struct fs)) : fs.all (fun f => (tinf Try.prog f.type).isSome) = true := by
 rw [Try.underlying109] at h
 cases h
 simp [ti2, ti22]
def pl130 (i : Nat) : Option (Nat × Nat) := [(0, 1), (1, 1)][i]?
theorem fp130 (fs : Array Field) (h : Try.prog.underlying 130 = some (.struct fs)) : ∀ i, fplace Try.prog fs i = pl130 i := by
 rw [Try.underlying130] at h
 cases h
 intro i
 match i with
 | 0 => simp [fplace, pl130, ti25]
 | 1 => simp [fplace, pl130, ti3]
 | n + 2 => simp [fplace, pl130]
theorem fa130 (fs : Array Field) (h : Try.prog.underlying 130 = some (.struct fs)) : fs.all (fun f => (tinf Try.prog f.type).isSome) = true := by
 rw [Try.underlying130] at h
 cases h
 simp [ti25, ti3]
theorem cl11 : callable Try.prog 11 = true := by kernel_rfl
theorem cl20 : callable Try.prog 20 = true := by kernel_rfl
theorem cl25 : callable Try.prog 25 = true := by kernel_rfl
theorem cl26 : callable Try.prog 26 = true := by kernel_rfl
theorem cl27 : callable Try.prog 27 = true := by kernel_rfl
theorem cl28 : callable Try.prog 28 = true := by kernel_rfl
theorem cl39 : callable Try.prog 39 = true := by kernel_rfl
theorem cl40 : callable Try.prog 40 = true := by kernel_rfl
theorem cl41 : callable Try.prog 41 = true := by kernel_rfl
theorem cl42 : callable Try.prog 42 = true := by kernel_rfl
theorem cl43 : callable Try.prog 43 = true := by kernel_rfl
theorem cl44 : callable Try.prog 44 = true := by kernel_rfl
theorem cl45 : callable Try.prog 45 = true := by kernel_rfl
theorem cl46 : callable Try.prog 46 = true := by kernel_rfl
theorem cl47 : callable Try.prog 47 = true := by kernel_rfl
theorem cl51 : callable Try.prog 51 = true := by kernel_rfl
theorem cl53 : callable Try.prog 53 = true := by kernel_rfl
theorem cl55 : callable Try.prog 55 = true := by kernel_rfl
theorem cl59 : callable Try.prog 59 = true := by kernel_rfl
theorem cl60 : callable Try.prog 60 = true := by kernel_rfl
theorem cl61 : callable Try.prog 61 = true := by kernel_rfl
theorem cl62 : callable Try.prog 62 = true := by kernel_rfl
theorem cl63 : callable Try.prog 63 = true := by kernel_rfl
theorem cl64 : callable Try.prog 64 = true := by kernel_rfl
theorem cl65 : callable Try.prog 65 = true := by kernel_rfl
theorem cl67 : callable Try.prog 67 = true := by kernel_rfl
theorem cl74 : callable Try.prog 74 = true := by kernel_rfl
theorem cl79 : callable Try.prog 79 = true := by kernel_rfl
theorem cl80 : callable Try.prog 80 = true := by kernel_rfl
theorem cl81 : callable Try.prog 81 = true := by kernel_rfl
theorem cl82 : callable Try.prog 82 = true := by kernel_rfl
theorem cl83 : callable Try.prog 83 = true := by kernel_rfl
theorem cl84 : callable Try.prog 84 = true := by kernel_rfl
theorem cl85 : callable Try.prog 85 = true := by kernel_rfl
theorem cl86 : callable Try.prog 86 = true := by kernel_rfl
theorem cl87 : callable Try.prog 87 = true := by kernel_rfl
theorem cl88 : callable Try.prog 88 = true := by kernel_rfl
theorem cl89 : callable Try.prog 89 = true := by kernel_rfl
theorem cl90 : callable Try.prog 90 = true := by kernel_rfl
theorem cl91 : callable Try.prog 91 = true := by kernel_rfl
theorem cl92 : callable Try.prog 92 = true := by kernel_rfl
theorem cl93 : callable Try.prog 93 = true := by kernel_rfl
theorem cl95 : callable Try.prog 95 = true := by kernel_rfl
theorem cl96 : callable Try.prog 96 = true := by kernel_rfl
theorem cl97 : callable Try.prog 97 = true := by kernel_rfl
theorem cl102 : callable Try.prog 102 = true := by kernel_rfl
theorem cl103 : callable Try.prog 103 = true := by kernel_rfl
theorem cl104 : callable Try.prog 104 = true := by kernel_rfl
theorem cl105 : callable Try.prog 105 = true := by kernel_rfl
theorem cl106 : callable Try.prog 106 = true := by kernel_rfl
theorem cl107 : callable Try.prog 107 = true := by kernel_rfl
theorem cl114 : callable Try.prog 114 = true := by kernel_rfl
theorem cl116 : callable Try.prog 116 = true := by kernel_rfl
theorem cl117 : callable Try.prog 117 = true := by kernel_rfl
theorem cl118 : callable Try.prog 118 = true := by kernel_rfl
theorem cl119 : callable Try.prog 119 = true := by kernel_rfl
theorem cl120 : callable Try.prog 120 = true := by kernel_rfl
theorem cl125 : callable Try.prog 125 = true := by kernel_rfl
theorem cl126 : callable Try.prog 126 = true := by kernel_rfl
theorem cl127 : callable Try.prog 127 = true := by kernel_rfl
theorem cl128 : callable Try.prog 128 = true := by kernel_rfl
theorem cl137 : callable Try.prog 137 = true := by kernel_rfl
theorem cl139 : callable Try.prog 139 = true := by kernel_rfl
theorem cl141 : callable Try.prog 141 = true := by kernel_rfl
theorem mixed : Try.prog.follows .mixedOrders = true := by kernel_rfl
theorem U2 : type_of% Try.underlying2 := Try.underlying2
theorem U3 : type_of% Try.underlying3 := Try.underlying3
theorem U4 : type_of% Try.underlying4 := Try.underlying4
theorem U5 : type_of% Try.underlying5 := Try.underlying5
theorem U9 : type_of% Try.underlying9 := Try.underlying9
theorem U22 : type_of% Try.underlying22 := Try.underlying22
theorem U24 : type_of% Try.underlying24 := Try.underlying24
theorem U25 : type_of% Try.underlying25 := Try.underlying25
theorem U26 : type_of% Try.underlying26 := Try.underlying26
theorem U29 : type_of% Try.underlying29 := Try.underlying29
theorem U39 : type_of% Try.underlying39 := Try.underlying39
theorem U43 : type_of% Try.underlying43 := Try.underlying43
theorem U45 : type_of% Try.underlying45 := Try.underlying45
theorem U46 : type_of% Try.underlying46 := Try.underlying46
theorem U47 : type_of% Try.underlying47 := Try.underlying47
theorem U49 : type_of% Try.underlying49 := Try.underlying49
theorem U57 : type_of% Try.underlying57 := Try.underlying57
theorem U59 : type_of% Try.underlying59 := Try.underlying59
theorem U62 : type_of% Try.underlying62 := Try.underlying62
theorem U109 : type_of% Try.underlying109 := Try.underlying109
theorem U120 : type_of% Try.underlying120 := Try.underlying120
theorem U130 : type_of% Try.underlying130 := Try.underlying130
theorem U150 : type_of% Try.underlying150 := Try.underlying150
theorem U159 : type_of% Try.underlying159 := Try.underlying159
end Go.Proofs.Ytgdbmgnfaefhoaa.Am
