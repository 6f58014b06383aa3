/- Walking: frames by lists, loops by states, steps of regions that draw their order. -/
import Derived.Test.YteclchefihcjkaaM13
namespace Go.Proofs.Yteclchefihcjkaa.Am
open Go

/-- The same value, its entries under other numbers: entry i of the new memory, of length m, is entry τ i of the old one. -/
inductive Rn (τ : Nat → Nat) (m : Nat) : AV → AV → Prop
  | any (a : AV) : Rn τ m a .any
  | sc (v : Value) : Rn τ m (.sc v) (.sc v)
  | nil (z : Nat) (k : Tk) (hk : ∀ t, k = .tk t → t < m) : Rn τ m (.sc (.slice none 0 0)) (.sl z [] k)
  | no (z : Nat) (es : List (List PV)) (k : Tk) : Rn τ m (.sl z es k) (.sl z es .no)
  | ex (z : Nat) (es : List (List PV)) : Rn τ m (.sl z es .ex) (.sl z es .ex)
  | tk (z : Nat) (es : List (List PV)) (t : Nat) (h : t < m) : Rn τ m (.sl z es (.tk (τ t))) (.sl z es (.tk t))
  | ag (cs cs' : List AV) (hl : cs'.length = cs.length) (h : ∀ (i : Nat) c c', cs[i]? = some c → cs'[i]? = some c' → Rn τ m c c') : Rn τ m (.ag cs) (.ag cs')
  | tp (cs cs' : List AV) (hl : cs'.length = cs.length) (h : ∀ (i : Nat) c c', cs[i]? = some c → cs'[i]? = some c' → Rn τ m c c') : Rn τ m (.tp cs) (.tp cs')
  | pt (id off : Nat) (h : id < m) : Rn τ m (.pt (τ id) off) (.pt id off)
  | ep (cs : List PV) : Rn τ m (.ep cs) (.ep cs)
  | hs (id off len mc s : Nat) (h : id < m) : Rn τ m (.hs (τ id) off len mc s) (.hs id off len mc s)
  | mp (id : Nat) (h : id < m) : Rn τ m (.mp (τ id)) (.mp id)
  | fn (f : Fn) (fs fs' cs cs' : List AV) (hl : fs'.length = fs.length) (hl' : cs'.length = cs.length) (h : ∀ (i : Nat) c c', fs[i]? = some c → fs'[i]? = some c' → Rn τ m c c')
      (h' : ∀ (i : Nat) c c', cs[i]? = some c → cs'[i]? = some c' → Rn τ m c c') : Rn τ m (.fn f fs cs) (.fn f fs' cs')

theorem Rn.vr {τ : Nat → Nat} {m : Nat} {g g' : Gh} (hro : g'.ro = g.ro) (hmu : ∀ i, i < m → g'.mu i = g.mu (τ i)) {a a' : AV} (hr : Rn τ m a a') : ∀ {n : Nat} {v : Value}, VR g n a v → VR g' m a' v := by
  have list : ∀ {cs cs' : List AV} {n : Nat} {vs : Array Value}, cs'.length = cs.length → (∀ (i : Nat) c c', cs[i]? = some c → cs'[i]? = some c' → ∀ {n : Nat} {v : Value}, VR g n c v → VR g' m c' v) →
      (∀ (i : Nat) c, cs[i]? = some c → VR g n c (vs.getD i undef)) → ∀ (i : Nat) c, cs'[i]? = some c → VR g' m c (vs.getD i undef) := fun {cs cs'} _ _ hl ih h i c hc => by
    have hlt := lt_of_get hc
    exact ih i _ c (List.getElem?_eq_getElem (by omega)) hc (h i _ (List.getElem?_eq_getElem (by omega)))
  induction hr with
  | any a => exact fun _ => .any _
  | sc v =>
    intro n v h
    cases h; exact .sc _
  | nil z k hk =>
    intro n v h
    cases h; exact .nil z k hk
  | no z es k =>
    intro n v h
    cases h with
    | nil z => exact .nil z .no fun t e => by cases e
    | sl z es k a cap f h1 h2 h3 h4 h5 => exact .sl z es .no a cap f h1 h2 h3 (hro ▸ h4) trivial
  | ex z es =>
    intro n v h
    cases h with
    | nil z => exact .nil z .ex fun t e => by cases e
    | sl z es k a cap f h1 h2 h3 h4 h5 => exact .sl z es .ex a cap f h1 h2 h3 (hro ▸ h4) h5
  | tk z es t ht =>
    intro n v h
    cases h with
    | nil z => exact .nil z _ fun t e => by cases e; exact ht
    | sl z es k a cap f h1 h2 h3 h4 h5 => exact .sl z es _ a cap f h1 h2 h3 (hro ▸ h4) ⟨ht, h5.2.imp id fun e => (hmu t ht).trans e⟩
  | ag cs cs' hl _ ih =>
    intro n v h
    cases h with
    | ag _ vs hs hv => exact .ag cs' vs (hs.trans hl.symm) (list hl ih hv)
  | tp cs cs' hl _ ih =>
    intro n v h
    cases h with
    | tp _ vs hs hv => exact .tp cs' vs (hs.trans hl.symm) (list hl ih hv)
  | pt id off hid =>
    intro n v h
    cases h; rw [← hmu id hid]; exact .pt id off hid
  | ep cs =>
    intro n v h
    cases h with
    | ep cs a f h1 h2 => exact .ep cs a f h1 (hro ▸ h2)
  | hs id off len mc s hid =>
    intro n v h
    cases h with
    | hs _ _ _ _ _ cap h1 h2 h3 h4 => rw [← hmu id hid] at h4 ⊢; exact .hs id off len mc s cap hid h2 h3 h4
    | hn _ _ _ a h1 => exact .hn id off s a hid
  | mp id hid =>
    intro n v h
    cases h; rw [← hmu id hid]; exact .mp id hid
  | fn f fs fs' cs cs' hl hl' _ _ ih ih' =>
    intro n v h
    cases h with
    | fn _ _ _ vf vc h1 h2 h3 h4 => exact .fn f fs' cs' vf vc (h1.trans hl.symm) (h2.trans hl'.symm) (list hl ih h3) (list hl' ih' h4)

theorem Rn.of_bd {τ : Nat → Nat} {n m : Nat} (hτ : ∀ i, i < n → τ i = i) (hnm : n ≤ m) {a : AV} (h : Bd n a) : Rn τ m a a := by
  have list : ∀ {cs : List AV}, (∀ (i : Nat) c, cs[i]? = some c → Rn τ m c c) → ∀ (i : Nat) c c', cs[i]? = some c → cs[i]? = some c' → Rn τ m c c' := fun ih i c c' h h' => by rw [h] at h'; cases h'; exact ih i c h
  induction h with
  | any => exact .any _
  | sc v => exact .sc v
  | sl z es k hk =>
    cases k with
    | no => exact .no z es _
    | ex => exact .ex z es
    | tk t => have := hk t rfl; have h2 := Rn.tk (τ := τ) (m := m) z es t (by omega); rw [hτ t this] at h2; exact h2
  | ag cs _ ih => exact .ag cs cs rfl (list ih)
  | tp cs _ ih => exact .tp cs cs rfl (list ih)
  | pt id off h => have h2 := Rn.pt (τ := τ) (m := m) id off (by omega); rw [hτ id h] at h2; exact h2
  | ep cs => exact .ep cs
  | hs id off len mc s h => have h2 := Rn.hs (τ := τ) (m := m) id off len mc s (by omega); rw [hτ id h] at h2; exact h2
  | mp id h => have h2 := Rn.mp (τ := τ) (m := m) id (by omega); rw [hτ id h] at h2; exact h2
  | fn f fs cs _ _ i1 i2 => exact .fn f fs fs cs cs rfl rfl (list i1) (list i2)

inductive RnE (τ : Nat → Nat) (m : Nat) : Ent → Ent → Prop
  | dead (e : Ent) : RnE τ m e .dead
  | tok : RnE τ m .tok .tok
  | cells (cs cs' : List AV) (hl : cs'.length = cs.length) (h : ∀ (i : Nat) c c', cs[i]? = some c → cs'[i]? = some c' → Rn τ m c c') : RnE τ m (.cells cs) (.cells cs')
  | map (es : List (Value × AV)) (h : ∀ k a, (k, a) ∈ es → Rn τ m a a) : RnE τ m (.map es) (.map es)
  | mpi (es : List (Value × AV)) (ents : Array MapEntry) (clock : Nat) (h : ∀ k a, (k, a) ∈ es → Rn τ m a a) : RnE τ m (.mpi es ents clock) (.mpi es ents clock)
  | itr (mid since : Nat) (seen : Array Nat) (stepped : Nat) (h : mid < m) (ht : τ mid = mid) : RnE τ m (.itr mid since seen stepped) (.itr mid since seen stepped)
  | tr (cs : List Tr) (h : ∀ (i : Nat) c, cs[i]? = some c → c.All fun a => Rn τ m a a) : RnE τ m (.tr cs) (.tr cs)

theorem MapR.ren {τ : Nat → Nat} {m n : Nat} {g g' : Gh} (hro : g'.ro = g.ro) (hmu : ∀ i, i < m → g'.mu i = g.mu (τ i)) {es : List (Value × AV)} {ents : Array MapEntry} {clock : Nat} (hm : MapR g n es ents clock) (h : ∀ k a, (k, a) ∈ es → Rn τ m a a) : MapR g' m es ents clock :=
  ⟨hm.st, hm.size, hm.keys, fun k a hi => let ⟨x, x1, x2, x3⟩ := hm.get k a hi; ⟨x, x1, x2, (h k a hi).vr hro hmu x3⟩, hm.all⟩

theorem TrR.ren {τ : Nat → Nat} {m n : Nat} {g g' : Gh} {w : World} {ow : Nat → Option (List Nat)} (hro : g'.ro = g.ro) (hmu : ∀ i, i < m → g'.mu i = g.mu (τ i)) {p : List Nat} {t : Tr} {v : Value} (h : TrR g n w ow p t v) :
    (t.All fun a => Rn τ m a a) → TrR g' m w ow p t v := by
  induction h with
  | av p a v h => intro h2; cases h2 with | av _ h2 => exact .av p a v (h2.vr hro hmu h)
  | hs p z len cs b o l cap f ho hb hc hlen hl hr0 hv _ ih => intro h2; cases h2 with | hs _ _ _ h2 => exact .hs p z len cs b o l cap f ho hb hc hlen hl (fun o' => by rw [hro]; exact hr0 o') hv fun k c hk => ih k c hk (h2 k c hk)
  | hn p z a => exact fun _ => .hn p z a
  | sr p z es a len cap hlen h hk => exact fun _ => .sr p z es a len cap hlen ((Rn.no z es .no).vr hro hmu h) (hk.imp id fun ⟨h1, h2, h3⟩ => ⟨h1, h2, fun o v hv => h3 o v (by rw [← hro]; exact hv)⟩)
  | srn p z => exact fun _ => .srn p z
  | pt p cs b o l f ho hb hl hr0 hv _ ih => intro h2; cases h2 with | pt _ h2 => exact .pt p cs b o l f ho hb hl (fun o' => by rw [hro]; exact hr0 o') hv fun k c hk => ih k c hk (h2 k c hk)
  | mp p es b ents clock ho hr0 hb hm =>
    intro h2
    cases h2 with
    | mp _ h2 => exact .mp p es b ents clock ho (fun o => by rw [hro]; exact hr0 o) hb (hm.ren hro hmu h2)

theorem RnE.of_bd {τ : Nat → Nat} {n m : Nat} (hτ : ∀ i, i < n → τ i = i) (hnm : n ≤ m) {e : Ent} (h : e.Bd n) : RnE τ m e e := by
  cases e with
  | dead => exact .dead _
  | tok => exact .tok
  | cells cs => exact .cells cs cs rfl fun i c c' h1 h2 => by rw [h1] at h2; cases h2; exact .of_bd hτ hnm (h i c h1)
  | map es => exact .map es fun k a hi => .of_bd hτ hnm (h k a hi)
  | mpi es ents clock => exact .mpi es ents clock fun k a hi => .of_bd hτ hnm (h k a hi)
  | itr mid since seen stepped => exact .itr mid since seen stepped (Nat.lt_of_lt_of_le h hnm) (hτ mid h)
  | tr cs => exact .tr cs fun i c hc => (h i c hc).mono fun _ ha => .of_bd hτ hnm ha

/-- An entry that is none of the dead. -/
def Live (H : Mem) (i : Nat) : Prop := ∃ e, H[i]? = some e ∧ e ≠ .dead

/-- Of the memory some entries are kept, under other numbers; the others are forgotten. -/
theorem Reb.gcl {N n0 : Nat} {fr fr1 : Frm} {H H2 : Mem} (τ : Nat → Nat) (hn : n0 ≤ H2.length) (h0 : ∀ i, i < n0 → τ i = i) (hinj : ∀ i j, Live H2 i → Live H2 j → τ i = τ j → i = j)
    (hent : ∀ (i : Nat) e', H2[i]? = some e' → e' = .dead ∨ ∃ e, H[τ i]? = some e ∧ RnE τ H2.length e e') (hfr : ∀ t, Rn τ H2.length (fr t) (fr1 t)) : Reb N n0 fr fr1 H H2 := by
  intro g w tmps hl hf hm
  classical
  let ow' : Nat → Option Nat := fun b => match g.ow b with | none => none | some id => if hx : ∃ i, Live H2 i ∧ τ i = id then some (Classical.choose hx) else none
  have how : ∀ b i, Live H2 i → g.ow b = some (τ i) → ow' b = some i := fun b i hi hb => by
    have hx : ∃ j, Live H2 j ∧ τ j = τ i := ⟨i, hi, rfl⟩
    simp only [ow', hb]
    rw [dif_pos hx]
    have := Classical.choose_spec hx
    rw [hinj _ _ this.1 hi this.2]
  have hmu : ∀ i, i < H2.length → (fun i => g.mu (τ i)) i = g.mu (τ i) := fun _ _ => rfl
  refine ⟨⟨g.ro, ow', fun i => g.mu (τ i)⟩, ⟨hf.size, fun t => (hfr t).vr (g := g) (g' := ⟨g.ro, ow', fun i => g.mu (τ i)⟩) rfl hmu (hf.vr t)⟩, ⟨hm.ro, fun i e' he' => ?_, fun b i hb => ?_⟩, ⟨⟨fun _ _ _ h => h, fun i hi => by simp only; rw [h0 i hi]⟩, fun b _ ho => ⟨by simp only [ow', ho], rfl⟩, Nat.le_refl _, rfl, rfl, rfl⟩, hn⟩
  · have hi := lt_of_get he'
    rcases hent i e' he' with rfl | ⟨e, he, hr⟩
    · trivial
    have hE := hm.ent _ _ he
    cases hr with
    | dead => trivial
    | tok =>
      rcases hE with hE | ⟨h1, h2, h3⟩
      · exact .inl hE
      · exact .inr ⟨how _ i ⟨_, he', by simp⟩ h1, h2, h3⟩
    | cells cs cs' hcl h =>
      rcases hE with ⟨e1, e2⟩ | ⟨h1, h2, h3, h4, h5⟩
      · exact .inl ⟨List.eq_nil_of_length_eq_zero (by rw [hcl, e1]; rfl), e2⟩
      refine .inr ⟨how _ i ⟨_, he', by simp⟩ h1, h2, by rw [hcl]; exact h3, h4, fun k c' hc' => ?_⟩
      have hlt := lt_of_get hc'
      obtain ⟨v, hv, hvr⟩ := h5 k _ (List.getElem?_eq_getElem (show k < cs.length by omega))
      exact ⟨v, hv, (h k _ c' (List.getElem?_eq_getElem (by omega)) hc').vr (g := g) (g' := ⟨g.ro, ow', fun i => g.mu (τ i)⟩) rfl hmu hvr⟩
    | map es h =>
      obtain ⟨h1, h2, ents, clock, h3, h4⟩ := hE
      exact ⟨how _ i ⟨_, he', by simp⟩ h1, h2, ents, clock, h3, h4.ren (g := g) (g' := ⟨g.ro, ow', fun i => g.mu (τ i)⟩) rfl hmu h⟩
    | mpi es ents clock h =>
      obtain ⟨h1, h2, h3, h4⟩ := hE
      exact ⟨how _ i ⟨_, he', by simp⟩ h1, h2, h3, h4.ren (g := g) (g' := ⟨g.ro, ow', fun i => g.mu (τ i)⟩) rfl hmu h⟩
    | itr mid since seen stepped h ht =>
      obtain ⟨h0, h1, h2, h3, h4⟩ := hE
      exact ⟨h, how _ i ⟨_, he', by simp⟩ h1, h2, h3, by simp only [ht]; exact h4⟩
    | tr cs h =>
      rcases hE with hE | ⟨ow, h0, h1, h2, h3, h4, h5⟩
      · exact .inl hE
      refine .inr ⟨ow, fun b p hp => how b i ⟨_, he', by simp⟩ (h0 b p hp), h1, h2, h3, h4, fun k c hc => ?_⟩
      obtain ⟨v, hv, hvr⟩ := h5 k c hc
      exact ⟨v, hv, hvr.ren (g := g) (g' := ⟨g.ro, ow', fun i => g.mu (τ i)⟩) rfl hmu (h k c hc)⟩
  · simp only [ow'] at hb
    split at hb
    · cases hb
    · rename_i id hid
      split at hb
      · rename_i hx
        cases hb
        obtain ⟨⟨e', he', _⟩, _⟩ := Classical.choose_spec hx
        exact ⟨(hm.ow b id hid).1, lt_of_get he'⟩
      · cases hb

theorem Reb.gc {N n0 : Nat} {fr fr1 : Frm} {H H2 : Mem} (τ : Nat → Nat) (hn : n0 ≤ H2.length) (h0 : ∀ i, i < n0 → τ i = i) (hinj : ∀ i j, i < H2.length → j < H2.length → τ i = τ j → i = j)
    (hent : ∀ (i : Nat) e', H2[i]? = some e' → ∃ e, H[τ i]? = some e ∧ RnE τ H2.length e e') (hfr : ∀ t, Rn τ H2.length (fr t) (fr1 t)) : Reb N n0 fr fr1 H H2 :=
  .gcl τ hn h0 (fun i j ⟨_, h1, _⟩ ⟨_, h2, _⟩ => hinj i j (lt_of_get h1) (lt_of_get h2)) (fun i e' he => .inr (hent i e' he)) hfr

/-- Entries speak of earlier and later ones, but of none behind the end. -/
def MBd (H : Mem) : Prop := ∀ (id : Nat) e, H[id]? = some e → e.Bd H.length

/-- Which entry of the old memory an entry is, behind n: by a list. -/
def tau (n : Nat) (ρ : List Nat) (i : Nat) : Nat := if i < n then i else ρ.getD (i - n) i

/-- A beginning of the memory is kept as it is, and of the rest the entries ρ. -/
theorem Reb.keep {N n0 : Nat} {fr fr1 : Frm} {H1 tl kept : Mem} (ρ : List Nat) (hn : n0 ≤ H1.length) (hb : MBd H1) (hlen : ρ.length = kept.length) (hnd : ρ.Nodup) (hρ : ∀ r, r ∈ ρ → H1.length ≤ r)
    (hent : ∀ (j : Nat) r e', ρ[j]? = some r → kept[j]? = some e' → ∃ e, (H1 ++ tl)[r]? = some e ∧ RnE (tau H1.length ρ) (H1 ++ kept).length e e') (hfr : ∀ t, Rn (tau H1.length ρ) (H1 ++ kept).length (fr t) (fr1 t)) :
    Reb N n0 fr fr1 (H1 ++ tl) (H1 ++ kept) := by
  have hlo : ∀ i, i < H1.length → tau H1.length ρ i = i := fun i hi => by simp [tau, hi]
  have hhi : ∀ i, H1.length ≤ i → i < (H1 ++ kept).length → ∃ r, ρ[i - H1.length]? = some r ∧ tau H1.length ρ i = r := fun i hi hl => by
    have hj : i - H1.length < ρ.length := by rw [List.length_append] at hl; omega
    exact ⟨ρ[i - H1.length], List.getElem?_eq_getElem hj, by unfold tau; rw [if_neg (by omega), List.getD_eq_getElem?_getD, List.getElem?_eq_getElem hj]; rfl⟩
  refine Reb.gc (tau H1.length ρ) (by simp; omega) (fun i hi => hlo i (by omega)) (fun i j hi hj e => ?_) (fun i e' he' => ?_) hfr
  · rcases Nat.lt_or_ge i H1.length with h1 | h1
    · rw [hlo i h1] at e
      rcases Nat.lt_or_ge j H1.length with h2 | h2
      · rw [hlo j h2] at e; exact e
      · obtain ⟨r, hr, hr2⟩ := hhi j h2 hj
        have := hρ r (List.mem_of_getElem? hr); omega
    · obtain ⟨r, hr, hr2⟩ := hhi i h1 hi
      rcases Nat.lt_or_ge j H1.length with h2 | h2
      · rw [hlo j h2] at e
        have := hρ r (List.mem_of_getElem? hr); omega
      · obtain ⟨r', hr', hr2'⟩ := hhi j h2 hj
        rw [hr2, hr2'] at e
        subst e
        have hlt := lt_of_get hr
        have hlt' := lt_of_get hr'
        rw [List.getElem?_eq_getElem hlt] at hr
        rw [List.getElem?_eq_getElem hlt'] at hr'
        cases hr
        have e2 := Option.some.inj hr'
        rcases Nat.lt_trichotomy (i - H1.length) (j - H1.length) with h3 | h3 | h3
        · exact absurd e2.symm (List.pairwise_iff_getElem.1 hnd _ _ hlt hlt' h3)
        · omega
        · exact absurd e2 (List.pairwise_iff_getElem.1 hnd _ _ hlt' hlt h3)
  · rcases Nat.lt_or_ge i H1.length with h1 | h1
    · rw [List.getElem?_append_left h1] at he'
      exact ⟨e', by rw [hlo i h1, List.getElem?_append_left h1]; exact he', .of_bd hlo (by simp) (hb i e' he')⟩
    · have hl := lt_of_get he'
      obtain ⟨r, hr, hr2⟩ := hhi i h1 hl
      rw [List.getElem?_append_right h1] at he'
      rw [hr2]
      exact hent _ r e' hr he'

/-- The frame of which a list tells; of the other slots it tells nothing. -/
def Frm.of : List (Nat × AV) → Frm
  | [], _ => .any
  | (d, v) :: r, t => if t = d then v else Frm.of r t

def FLe (fr F : Frm) : Prop := ∀ t, F t = fr t ∨ F t = .any

theorem FLe.of {fr : Frm} : ∀ {l : List (Nat × AV)}, (∀ p ∈ l, fr p.1 = p.2) → FLe fr (Frm.of l)
  | [], _, _ => .inr rfl
  | (d, v) :: r, h, t => by
    by_cases e : t = d
    · subst e
      exact .inl (by simp only [Frm.of, if_true]; exact (h _ (List.mem_cons_self ..)).symm)
    · simp only [Frm.of, if_neg e]
      exact FLe.of (fun p hp => h p (List.mem_cons_of_mem _ hp)) t

theorem FLe.refl (fr : Frm) : FLe fr fr := fun _ => .inl rfl

section
variable {P : Program} {N n0 : Nat} {c : Code} {fr : Frm} {H : Mem} {Q : Exit → Frm → Mem → Prop}

theorem Reb.le {F : Frm} (hF : FLe fr F) : Reb N n0 fr F H H := fun g _ _ hl hf hm => ⟨g, hf.weaken hF, hm, .refl _ _ _, hl⟩
/-- Slot by slot. -/
def FrL (fr : Frm) : List (Nat × AV) → Prop
  | [] => True
  | (d, v) :: r => fr d = v ∧ FrL fr r

theorem FrL.all {fr : Frm} : ∀ {l : List (Nat × AV)}, FrL fr l → ∀ p ∈ l, fr p.1 = p.2
  | [], _, _, h => by cases h
  | (d, v) :: r, h, p, hp => by
    rcases List.mem_cons.1 hp with rfl | hp
    · exact h.1
    · exact FrL.all h.2 p hp
theorem Reb.of {l : List (Nat × AV)} (h : FrL fr l) : Reb N n0 fr (Frm.of l) H H := .le (.of h.all)

theorem Rn.of {τ : Nat → Nat} {m : Nat} : ∀ {l : List (Nat × AV)}, (∀ p ∈ l, Rn τ m (fr p.1) p.2) → ∀ t, Rn τ m (fr t) (Frm.of l t)
  | [], _, _ => .any _
  | (d, v) :: r, h, t => by
    by_cases e : t = d
    · subst e
      have := h _ (List.mem_cons_self ..)
      simp only [Frm.of, if_true]; exact this
    · simp only [Frm.of, if_neg e]
      exact Rn.of (fun p hp => h p (List.mem_cons_of_mem _ hp)) t

/-- Slot by slot. -/
def RnL (τ : Nat → Nat) (m : Nat) (fr : Frm) : List (Nat × AV) → Prop
  | [] => True
  | (d, v) :: r => Rn τ m (fr d) v ∧ RnL τ m fr r

theorem RnL.all {τ : Nat → Nat} {m : Nat} : ∀ {l : List (Nat × AV)}, RnL τ m fr l → ∀ p ∈ l, Rn τ m (fr p.1) p.2
  | [], _, _, h => by cases h
  | (d, v) :: r, h, p, hp => by
    rcases List.mem_cons.1 hp with rfl | hp
    · exact h.1
    · exact RnL.all h.2 p hp

/-- All that was made since is forgotten. -/
theorem Reb.drop {H1 tl : Mem} {l : List (Nat × AV)} (hn : n0 ≤ H1.length) (hb : MBd H1) (h : RnL (tau H1.length []) H1.length fr l) : Reb N n0 fr (Frm.of l) (H1 ++ tl) H1 := by
  have := Reb.keep (N := N) (n0 := n0) (fr := fr) (fr1 := Frm.of l) (H1 := H1) (tl := tl) (kept := []) [] hn hb rfl .nil (fun r h => by cases h) (fun j r e' h => by simp at h) (by simpa using Rn.of h.all)
  simpa using this

theorem getElem?_tok {H1 tl : Mem} {t : Nat} : (H1 ++ tl)[H1.length + t]? = tl[t]? := by rw [List.getElem?_append_right (by omega)]; simp

/-- All but one spare room. -/
theorem Reb.tok {H1 tl : Mem} {t : Nat} {l : List (Nat × AV)} (hn : n0 ≤ H1.length) (hb : MBd H1) (ht : tl[t]? = some .tok) (h : RnL (tau H1.length [H1.length + t]) (H1.length + 1) fr l) :
    Reb N n0 fr (Frm.of l) (H1 ++ tl) (H1 ++ [.tok]) := by
  refine Reb.keep [H1.length + t] hn hb rfl (by simp) (fun r h => by simp at h; omega) (fun j r e' h h' => ?_) (by simpa using Rn.of h.all)
  cases j with
  | zero => simp at h h'; subst h h'; exact ⟨.tok, by rw [getElem?_tok]; exact ht, .tok⟩
  | succ j => simp at h

theorem tau_hi {n : Nat} {r : Nat} {ρ : List Nat} : tau n (r :: ρ) n = r := by simp [tau]
/-- The spare room that is kept. -/
theorem Rn.tok {n r z : Nat} {es : List (List PV)} : Rn (tau n [r]) (n + 1) (.sl z es (.tk r)) (.sl z es (.tk n)) := by
  have := Rn.tk (τ := tau n [r]) (m := n + 1) z es n (by omega)
  rw [tau_hi] at this; exact this

/-- A nil slice, as one with spare room of nothing. -/
theorem Reb.nil {l : List (Nat × AV)} (h : ∀ p ∈ l, fr p.1 = p.2 ∨ (fr p.1 = .sc (.slice none 0 0) ∧ ∃ z, p.2 = .sl z [] (.tk H.length)) ∨ (fr p.1 = .sc (.slice none 0 0) ∧ ∃ z, p.2 = .sl z [] .no)) : Reb N n0 fr (Frm.of l) H (H ++ [.tok]) := fun g w tmps hl hf hm => by
  obtain ⟨m1, m2⟩ := hm.push_void
  refine ⟨_, ⟨hf.size, ?_⟩, m1, ⟨⟨m2.gle.ro, fun i hi => m2.gle.mu i (by omega)⟩, m2.un, m2.size, m2.os, m2.tape, m2.output⟩, by simp; omega⟩
  intro t
  have hfr := (hf.mono m2.gle (by simp : H.length ≤ (H ++ [Ent.tok]).length)).vr t
  generalize tmps.getD t undef = u at hfr
  induction l with
  | nil => exact .any _
  | cons p r ih =>
    obtain ⟨d, v⟩ := p
    by_cases e : t = d
    · subst e
      simp only [Frm.of, if_true]
      rcases h _ (List.mem_cons_self ..) with h1 | ⟨h1, z, h2⟩ | ⟨h1, z, h2⟩
      · simp only at h1; rw [← h1]; exact hfr
      · simp only at h1 h2
        rw [h1] at hfr; cases hfr; rw [h2]
        exact .nil z _ fun t e => by cases e; simp
      · simp only at h1 h2
        rw [h1] at hfr; cases hfr; rw [h2]
        exact .nil z _ fun t e => by cases e
    · simp only [Frm.of, if_neg e]
      exact ih fun p hp => h p (List.mem_cons_of_mem _ hp)

end

section
variable {P : Program} {ops : Array Oper} {cs : List Nat} {rest : List Oper} {o : Oper} {fr : Frm} {H : Mem} {K : Frm → Mem → Prop}

variable {B : Mem} {J : Mem → Prop}
theorem DRun_nil (h : K fr H) : DRun P J ops cs [] fr B H K := h
end

/-- A function's walk, from its body's. -/
theorem acalls_walk {P : Program} {f : FuncId} {fn : Func} {c : Code} {args : List AV} {H : Mem} {R : AV → Mem → Prop} (hf : P.funcs[f]? = some fn) (hb : fn.body = some c) (hcl : callable P f = true)
    (hN : args.length ≤ fn.ntmps)
    (h : MBd H → aw P fn.ntmps H.length c (afr0 args) H fun e fr H' => match e with | .normal | .ret => ∃ fr1 H1, Reb fn.ntmps H.length fr fr1 H' H1 ∧ resS P fn fr1 H1 R | _ => False) : ACalls P f args H R :=
  ⟨hcl, fun g w vals hm hs hv => (acalls_of_aw hf hb hcl hN (h fun id e he => (hm.ent id e he).bd)).2 g w vals hm hs hv⟩

theorem fin_here {P : Program} {fn : Func} {N n0 : Nat} {fr : Frm} {H' : Mem} {R : AV → Mem → Prop} (h : resS P fn fr H' R) : ∃ fr1 H1, Reb N n0 fr fr1 H' H1 ∧ resS P fn fr1 H1 R := ⟨_, _, .refl, h⟩

end Go.Proofs.Yteclchefihcjkaa.Am
