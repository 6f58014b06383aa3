/- Trees: cells and all that they own, as one entry; how it is taken apart, and put together again. -/
import Derived.Test.YteclchefihcjkaaM22
namespace Go.Proofs.Yteclchefihcjkaa.Am
open Go
set_option linter.unusedVariables false

/-- The same memory, told otherwise. -/
def RebM (H H1 : Mem) : Prop := H.length ≤ H1.length ∧ ∀ (g : Gh) (w : World), MR g H w → ∃ g1, MR g1 H1 w ∧ Ev H.length g w g1 w

theorem RebM.refl (H : Mem) : RebM H H := ⟨Nat.le_refl _, fun g w h => ⟨g, h, .refl _ _ _⟩⟩
theorem RebM.trans {H H1 H2 : Mem} (h : RebM H H1) (h' : RebM H1 H2) : RebM H H2 := ⟨Nat.le_trans h.1 h'.1, fun g w hm => by
  obtain ⟨g1, m1, e1⟩ := h.2 g w hm
  obtain ⟨g2, m2, e2⟩ := h'.2 g1 w m1
  exact ⟨g2, m2, e1.trans e2 h.1⟩⟩

theorem Ev.less {n n0 : Nat} {g g' : Gh} {w w' : World} (h : Ev n g w g' w') (hn : n0 ≤ n) : Ev n0 g w g' w' := ⟨⟨h.gle.ro, fun i hi => h.gle.mu i (by omega)⟩, h.un, h.size, h.os, h.tape, h.output⟩

theorem Reb.ofM {N n0 : Nat} {fr : Frm} {H H1 : Mem} (h : RebM H H1) : Reb N n0 fr fr H H1 := fun g w tmps hn hf hm => by
  obtain ⟨g1, m1, e1⟩ := h.2 g w hm
  exact ⟨g1, hf.mono e1.gle h.1, m1, e1.less hn, Nat.le_trans hn h.1⟩

/-! ## cells as a tree -/

theorem EntR.tr_of_cells {g : Gh} {n : Nat} {w : World} {id : Nat} {cs : List AV} (h : EntR g n w id (.cells cs)) : EntR g n w id (.tr (cs.map .av)) := by
  rcases h with ⟨h1, h2⟩ | ⟨h1, h2, h3, h4, h5⟩
  · exact .inl ⟨by rw [h1]; rfl, h2⟩
  refine .inr ⟨fun b => if b = (g.mu id).b then some [] else none, fun b p hp => ?_, by simp, h2, by simpa using h3, h4, fun k c hc => ?_⟩
  · simp only at hp
    split at hp
    · rename_i e; rw [e]; exact h1
    · cases hp
  · rw [List.getElem?_map] at hc
    cases hk : cs[k]? with
    | none => rw [hk] at hc; cases hc
    | some a =>
      rw [hk] at hc; cases hc
      obtain ⟨v, hv, hr⟩ := h5 k a hk
      exact ⟨v, hv, .av _ _ _ hr⟩

theorem EntR.cells_of_tr {g : Gh} {n : Nat} {w : World} {id : Nat} {cs : List AV} (h : EntR g n w id (.tr (cs.map .av))) : EntR g n w id (.cells cs) := by
  rcases h with ⟨h1, h2⟩ | ⟨ow, h0, h1, h2, h3, h4, h5⟩
  · exact .inl ⟨by simpa using h1, h2⟩
  refine .inr ⟨h0 _ _ h1, h2, by simpa using h3, h4, fun k c hc => ?_⟩
  obtain ⟨v, hv, hr⟩ := h5 k (.av c) (by rw [List.getElem?_map, hc]; rfl)
  cases hr with
  | av _ _ _ hr => exact ⟨v, hv, hr⟩

/-- An entry is told otherwise, and nothing else. -/
theorem MR.retell {g : Gh} {H : Mem} {w : World} {id : Nat} {e : Ent} (hm : MR g H w) (h : EntR g H.length w id e) : MR g (H.set id e) w := by
  have hlen : (H.set id e).length = H.length := by simp
  refine ⟨hm.ro, fun id' x hx => ?_, fun b i hb => by rw [hlen]; exact hm.ow b i hb⟩
  rw [hlen]
  rcases get_set hx with ⟨hne, hx⟩ | ⟨rfl, rfl, _⟩
  · exact hm.ent id' x hx
  · exact h
theorem RebM.tell {H : Mem} {id : Nat} {e : Ent} (h : ∀ g w, MR g H w → EntR g H.length w id e) : RebM H (H.set id e) := ⟨by simp, fun g w hm => ⟨g, hm.retell (h g w hm), .refl _ _ _⟩⟩

theorem RebM.tr {H : Mem} {p : Nat} {cs : List AV} {ts : List Tr} (hp : H[p]? = some (.cells cs)) (ht : ts = cs.map .av) : RebM H (H.set p (.tr ts)) := .tell fun g w hm => by subst ht; exact (hm.ent p _ hp).tr_of_cells
theorem RebM.cells {H : Mem} {p : Nat} {cs : List AV} {ts : List Tr} (hp : H[p]? = some (.tr ts)) (ht : ts = cs.map .av) : RebM H (H.set p (.cells cs)) := .tell fun g w hm => by subst ht; exact (hm.ent p _ hp).cells_of_tr

theorem EntR.retr {g : Gh} {n : Nat} {w : World} {id k : Nat} {cs : List Tr} {t t' : Tr} (h : EntR g n w id (.tr cs)) (hk : cs[k]? = some t) (ht : ∀ ow v, TrR g n w ow [k] t v → TrR g n w ow [k] t' v) : EntR g n w id (.tr (cs.set k t')) := by
  rcases h with ⟨h1, h2⟩ | ⟨ow, h0, h1, h2, h3, h4, h5⟩
  · subst h1; cases hk
  refine .inr ⟨ow, h0, h1, h2, by simpa using h3, h4, fun j c hc => ?_⟩
  rcases get_set hc with ⟨hne, hc⟩ | ⟨rfl, rfl, _⟩
  · exact h5 j c hc
  · obtain ⟨v, hv, hr⟩ := h5 j t hk
    exact ⟨v, hv, ht _ _ hr⟩
/-- A nil row, as one by value with room. -/
theorem RebM.nilS {H : Mem} {p k z : Nat} {cs ds : List Tr} (hp : H[p]? = some (.tr cs)) (hk : cs[k]? = some (.av (.sc (.slice none 0 0)))) (hd : ds = cs.set k (.sr z [])) : RebM H (H.set p (.tr ds)) :=
  .tell fun g w hm => by subst hd; exact (hm.ent p _ hp).retr hk fun ow v h => by cases h with | av _ _ _ h => cases h; exact .srn _ z
/-! ## put together -/

/-- What entry q tells goes into cell k of the tree p. -/
theorem RebM.absorb {H : Mem} {p q k : Nat} {cs ds : List Tr} {a : AV} {t : Tr} (hp : H[p]? = some (.tr cs)) (hpq : p ≠ q) (hk : cs[k]? = some (.av a)) (hd : ds = cs.set k t)
    (hsub : ∀ g w v, MR g H w → VR g H.length a v → ∃ oq : Nat → Option (List Nat), (∀ b r, oq b = some r → g.ow b = some q) ∧ TrR g H.length w oq [] t v) : RebM H ((H.set p (.tr ds)).set q .dead) := by
  subst hd
  refine ⟨by simp, fun g w hm => ?_⟩
  let g' : Gh := { g with ow := fun b => if g.ow b = some q then some p else g.ow b }
  have hgle : Gle H.length g g' := ⟨fun _ _ _ h => h, fun _ _ => rfl⟩
  have hlen : ((H.set p (.tr (cs.set k t))).set q .dead).length = H.length := by simp
  have hpl := lt_of_get hp
  refine ⟨g', ⟨hm.ro, fun id x hx => ?_, fun b i hb => ?_⟩, ⟨hgle, fun b _ ho => ⟨by simp [g', ho], rfl⟩, Nat.le_refl _, rfl, rfl, rfl⟩⟩
  · rw [hlen]
    rcases get_set hx with ⟨hne, hx⟩ | ⟨rfl, rfl, _⟩
    · rcases get_set hx with ⟨hne2, hx⟩ | ⟨rfl, rfl, _⟩
      · refine (hm.ent id x hx).keep (lt_of_get hx) hgle (Nat.le_refl _) fun b hb => ⟨?_, fun _ => rfl, rfl⟩
        simp only [g', hb, Option.some.injEq, if_neg hne]
      · rcases hm.ent id _ hp with ⟨h1, h2⟩ | ⟨ow, h0, h1, h2, h3, h4, h5⟩
        · subst h1; cases hk
        obtain ⟨v, hv, hr⟩ := h5 k _ hk
        cases hr with
        | av _ _ _ hr =>
          obtain ⟨oq, hq, ht⟩ := hsub g w v hm hr
          have hno : ∀ b r, ow b = some r → oq b = none := fun b r hb => by
            cases ho : oq b with
            | none => rfl
            | some r' => have := hq b r' ho; rw [h0 b r hb] at this; cases this; exact absurd rfl hne
          let ow' : Nat → Option (List Nat) := fun b => match oq b with | some r => some (k :: r) | none => ow b
          refine .inr ⟨ow', fun b r hb => ?_, ?_, h2, by simpa using h3, h4, fun j c hc => ?_⟩
          · simp only [ow'] at hb
            cases ho : oq b with
            | none => rw [ho] at hb; simp only [g', h0 b r hb, Option.some.injEq, if_neg hne]
            | some r' => simp only [g', hq b r' ho, if_true]
          · simp only [ow']; rw [hno _ _ h1]; exact h1
          · rcases get_set hc with ⟨hne3, hc⟩ | ⟨rfl, rfl, _⟩
            · obtain ⟨u, hu, hur⟩ := h5 j c hc
              refine ⟨u, hu, hur.move hgle (Nat.le_refl _) [j] fun b r hb => ⟨?_, fun _ => rfl, rfl⟩⟩
              simp only [ow']; rw [hno _ _ hb]; exact hb
            · refine ⟨v, hv, ht.move hgle (Nat.le_refl _) [j] fun b r hb => ⟨?_, fun _ => rfl, rfl⟩⟩
              simp only [ow']
              rw [List.nil_append] at hb
              rw [hb]; rfl
    · trivial
  · rw [hlen]
    simp only [g'] at hb
    split at hb
    · rename_i h1; cases hb; exact ⟨(hm.ow b q h1).1, hpl⟩
    · exact hm.ow b i hb

theorem TrR.cells {g : Gh} {n : Nat} {w : World} {q : Nat} {ds : List Tr} (h : EntR g n w q (.tr ds)) (hne : ds ≠ [] ∨ (g.mu q).o ≤ (g.mu q).l) : ∃ ow : Nat → Option (List Nat), (∀ b p, ow b = some p → g.ow b = some q) ∧ ow (g.mu q).b = some [] ∧ Blk w (g.mu q).b (g.mu q).l ∧
      (g.mu q).o + ds.length ≤ (g.mu q).l ∧ (∀ o, g.ro (g.mu q).b o = none) ∧ ∃ f : Nat → Value, (∀ (k : Nat) c, ds[k]? = some c → w.cell? ⟨(g.mu q).b, (g.mu q).o + k, none⟩ = some (f k)) ∧ ∀ (k : Nat) c, ds[k]? = some c → TrR g n w ow [k] c (f k) := by
  rcases h with ⟨h1, h2⟩ | ⟨ow, h0, h1, h2, h3, h4, h5⟩
  · rcases hne with h | h
    · exact absurd h1 h
    · omega
  refine ⟨ow, h0, h1, h2, h3, h4, fun k => (w.cell? ⟨(g.mu q).b, (g.mu q).o + k, none⟩).getD undef, fun k c hc => ?_, fun k c hc => ?_⟩
  · obtain ⟨v, hv, _⟩ := h5 k c hc; simp only [hv]; rfl
  · obtain ⟨v, hv, hr⟩ := h5 k c hc; simp only [hv]; exact hr

/-- A map. -/
theorem RebM.foldM {H : Mem} {p q k : Nat} {cs ds : List Tr} {es : List (Value × AV)} (hp : H[p]? = some (.tr cs)) (hq : H[q]? = some (.map es)) (hpq : p ≠ q) (hk : cs[k]? = some (.av (.mp q))) (hd : ds = cs.set k (.mp es)) :
    RebM H ((H.set p (.tr ds)).set q .dead) := .absorb hp hpq hk hd fun g w v hm hv => by
  cases hv with
  | mp _ hid =>
    obtain ⟨h1, h2, ents, clock, h3, h4⟩ := hm.ent q _ hq
    refine ⟨fun b => if b = (g.mu q).b then some [] else none, fun b r hb => ?_, .mp [] es _ ents clock (by simp) h2 h3 h4⟩
    simp only at hb
    split at hb
    · rename_i e; rw [e]; exact h1
    · cases hb
/-- A row by value, and its room. -/
theorem RebM.foldS {H : Mem} {p q k z : Nat} {es : List (List PV)} {cs ds : List Tr} (hp : H[p]? = some (.tr cs)) (hq : H[q]? = some .tok) (hpq : p ≠ q) (hk : cs[k]? = some (.av (.sl z es (.tk q)))) (hd : ds = cs.set k (.sr z es)) :
    RebM H ((H.set p (.tr ds)).set q .dead) := .absorb hp hpq hk hd fun g w v hm hv => by
  have hv' := hv.no_tok
  cases hv with
  | nil _ _ hk => exact ⟨fun _ => none, (fun b r h => by cases h), .srn [] z⟩
  | sl _ _ _ a cap f g1 g2 g3 g4 g5 =>
    by_cases hc : cap = es.length
    · exact ⟨fun _ => none, (fun b r h => by cases h), .sr [] z es a _ cap rfl hv' (.inl hc)⟩
    have hmu := g5.2.resolve_left hc
    have he := hm.ent q _ hq
    simp only [EntR, hmu] at he
    rcases he with he | ⟨h1, h2, h3⟩
    · have := Nat.mul_le_mul_right z g2
      omega
    refine ⟨fun b => if b = a.block then some [] else none, fun b r hb => ?_, .sr [] z es a _ cap rfl hv' (.inr ⟨by simp, h2, h3⟩)⟩
    simp only at hb
    split at hb
    · rename_i e; rw [e]; exact h1
    · cases hb
/-! ## taken apart -/

def under (k : Nat) : Option (List Nat) → Option (List Nat)
  | some (j :: r) => if j = k then some r else none
  | _ => none
theorem under_self (k : Nat) (r : List Nat) : under k (some (k :: r)) = some r := by simp [under]

/-- Cell k of the tree p goes by an entry of its own. -/
theorem RebM.expel {H : Mem} {p k : Nat} {cs ds : List Tr} {a : AV} {t : Tr} {e : Ent} (hp : H[p]? = some (.tr cs)) (hk : cs[k]? = some t) (hd : ds = cs.set k (.av a))
    (hsub : ∀ (g : Gh) w ow v, MR g H w → TrR g H.length w ow [k] t v → ∃ pl : Pl, ∀ g' : Gh, Gle H.length g g' → g'.mu H.length = pl → (∀ b r, ow b = some (k :: r) → g'.ow b = some H.length ∧ ∀ o, g'.ro b o = g.ro b o) →
      VR g' (H.length + 1) a v ∧ EntR g' (H.length + 1) w H.length e) : RebM H (H.set p (.tr ds) ++ [e]) := by
  subst hd
  refine ⟨by simp, fun g w hm => ?_⟩
  rcases hm.ent p _ hp with ⟨h1, h2⟩ | ⟨ow, h0, h1, h2, h3, h4, h5⟩
  · subst h1; cases hk
  obtain ⟨v, hv, hr⟩ := h5 k _ hk
  obtain ⟨pl, hsub⟩ := hsub g w ow v hm hr
  have hpl := lt_of_get hp
  have hlen : (H.set p (.tr (cs.set k (.av a))) ++ [e]).length = H.length + 1 := by simp
  let g' : Gh := ⟨g.ro, fun b => if (under k (ow b)).isSome then some H.length else g.ow b, fun i => if i = H.length then pl else g.mu i⟩
  have hgle : Gle H.length g g' := ⟨fun _ _ _ h => h, fun i hi => by simp only [g']; rw [if_neg (by omega)]⟩
  have how : ∀ b, (under k (ow b)).isSome = true → g.ow b = some p := fun b hb => by
    cases ho : ow b with
    | none => rw [ho] at hb; cases hb
    | some r => exact h0 b r ho
  obtain ⟨s1, s2⟩ := hsub g' hgle (by simp [g']) fun b r hb => ⟨by simp only [g', hb, under_self]; simp, fun _ => rfl⟩
  refine ⟨g', ⟨hm.ro, fun id x hx => ?_, fun b i hb => ?_⟩, ⟨hgle, fun b _ ho => ⟨?_, rfl⟩, Nat.le_refl _, rfl, rfl, rfl⟩⟩
  · rw [hlen]
    rcases get_snoc hx with hx | ⟨rfl, rfl⟩
    · rcases get_set hx with ⟨hne, hx⟩ | ⟨rfl, rfl, _⟩
      · refine (hm.ent id x hx).keep (lt_of_get hx) hgle (by omega) fun b hb => ⟨?_, fun _ => rfl, rfl⟩
        simp only [g']
        rw [if_neg]
        · exact hb
        · intro hu; have := how b hu; rw [hb] at this; cases this; exact hne rfl
      · have hmu : g'.mu id = g.mu id := hgle.mu id hpl
        simp only [EntR, hmu]
        refine .inr ⟨fun b => if (under k (ow b)).isSome then none else ow b, fun b r hb => ?_, ?_, h2, by simpa using h3, h4, fun j c hc => ?_⟩
        · simp only at hb
          split at hb
          · cases hb
          · rename_i hu; simp only [g']; rw [if_neg hu]; exact h0 b r hb
        · simp [h1, under]
        · rcases get_set hc with ⟨hne3, hc⟩ | ⟨rfl, rfl, _⟩
          · obtain ⟨u, hu, hur⟩ := h5 j c hc
            refine ⟨u, hu, hur.move hgle (by omega) [j] fun b r hb => ⟨?_, fun _ => rfl, rfl⟩⟩
            simp [hb, under, hne3]
          · exact ⟨v, hv, .av _ _ _ s1⟩
    · simp only [List.length_set]; exact s2
  · rw [hlen]
    simp only [g'] at hb
    split at hb
    · rename_i hu; cases hb; exact ⟨(hm.ow b p (how b hu)).1, by omega⟩
    · have := hm.ow b i hb; exact ⟨this.1, by omega⟩
  · simp only [g']
    rw [if_neg]
    · exact ho
    · intro hu; have := how b hu; rw [ho] at this; cases this

theorem TrR.out {g g' : Gh} {n n' k j : Nat} {w : World} {ow : Nat → Option (List Nat)} {t : Tr} {v : Value} (h : TrR g n w ow [k, j] t v) (hg : Gle n g g') (hn : n ≤ n') (hro : ∀ b r, ow b = some (k :: r) → ∀ o, g'.ro b o = g.ro b o) :
    TrR g' n' w (fun b => under k (ow b)) [j] t v := h.move hg hn [j] fun b r hb => ⟨by simp only [hb]; exact under_self k _, hro b _ hb, rfl⟩

theorem RebM.unfM {H : Mem} {p k : Nat} {cs ds : List Tr} {es : List (Value × AV)} (hp : H[p]? = some (.tr cs)) (hk : cs[k]? = some (.mp es)) (hd : ds = cs.set k (.av (.mp H.length))) : RebM H (H.set p (.tr ds) ++ [.map es]) := .expel hp hk hd fun g w ow v hm hr => by
  cases hr with
  | mp _ _ b ents clock ho hro hb hmr =>
    refine ⟨⟨b, 0, 0⟩, fun g' hg hmu hb' => ?_⟩
    refine ⟨by have := VR.mp (g := g') (n := H.length + 1) H.length (by omega); rw [hmu] at this; exact this, ?_⟩
    simp only [EntR, hmu]
    obtain ⟨k1, k2⟩ := hb' b [] ho
    exact ⟨k1, fun o => (k2 o).trans (hro o), ents, clock, hb, hmr.mono hg (by omega)⟩
theorem RebM.unfS {H : Mem} {p k z : Nat} {cs ds : List Tr} {es : List (List PV)} (hp : H[p]? = some (.tr cs)) (hk : cs[k]? = some (.sr z es)) (hd : ds = cs.set k (.av (.sl z es (.tk H.length)))) : RebM H (H.set p (.tr ds) ++ [.tok]) := .expel hp hk hd fun g w ow v hm hr => by
  cases hr with
  | sr _ _ _ a len cap hl h hk =>
    subst hl
    by_cases hc : cap = es.length
    · refine ⟨⟨0, 1, 0⟩, fun g' hg hmu hb' => ⟨h.withT hg.ro (by omega) (.inl hc), ?_⟩⟩
      simp only [EntR, hmu]
      exact .inl (by omega)
    obtain ⟨h1, h2, h3⟩ := hk.resolve_left hc
    refine ⟨⟨a.block, a.off + es.length * z, a.off + cap * z⟩, fun g' hg hmu hb' => ⟨h.withT hg.ro (by omega) (.inr hmu), ?_⟩⟩
    simp only [EntR, hmu]
    obtain ⟨k1, k2⟩ := hb' _ [] h1
    exact .inr ⟨k1, h2, fun o v hv => h3 o v (by rw [← k2]; exact hv)⟩
  | srn _ _ =>
    refine ⟨⟨0, 1, 0⟩, fun g' hg hmu hb' => ⟨.nil z _ fun t e => by cases e; omega, ?_⟩⟩
    simp only [EntR, hmu]
    exact .inl (by omega)
/-! ## what speaks of no entry -/

theorem MBd.setTr {H : Mem} {p : Nat} {cs : List Tr} (hH : MBd H) (hc : ∀ c ∈ cs, c.All fun a => a.clo1 = true) : MBd (H.set p (.tr cs)) := fun id e he => by
  rw [List.length_set]
  rcases get_set he with ⟨_, he⟩ | ⟨rfl, rfl, _⟩
  · exact hH id e he
  · exact fun i c hc' => (hc c (List.mem_of_getElem? hc')).mono fun _ h => AV.clo1_bd h
theorem MBd.newTr {H : Mem} {cs : List Tr} (hH : MBd H) (hc : ∀ c ∈ cs, c.All fun a => a.clo1 = true) : MBd (H ++ [.tr cs]) := fun id e he => by
  rcases get_snoc he with he | ⟨rfl, rfl⟩
  · exact Bd.emono (by simp) (hH id e he)
  · exact fun i c hc' => (hc c (List.mem_of_getElem? hc')).mono fun _ h => AV.clo1_bd h
abbrev Tr.Clo (t : Tr) : Prop := t.All fun a => a.clo1 = true
theorem Clo.row {z n : Nat} (ps : List PV) : (Tr.hs z n ((ps.map PV.av).map .av)).Clo := .hs _ _ _ fun i c hc => by
  rw [List.map_map, List.getElem?_map] at hc
  cases h : ps[i]? with
  | none => rw [h] at hc; cases hc
  | some p => rw [h] at hc; cases hc; exact .av _ (clo1_av p)
theorem Clo.nil : ∀ c ∈ ([] : List Tr), c.Clo := fun c h => by cases h
theorem Clo.cons {t : Tr} {l : List Tr} (h : t.Clo) (hl : ∀ c ∈ l, c.Clo) : ∀ c ∈ t :: l, c.Clo := fun c hc => by
  rcases List.mem_cons.1 hc with rfl | hc
  · exact h
  · exact hl c hc
theorem Clo.pt {l : List Tr} (hl : ∀ c ∈ l, c.Clo) : (Tr.pt l).Clo := .pt _ fun i c hc => hl c (List.mem_of_getElem? hc)
theorem Clo.rows {z n : Nat} {l : List Tr} (hl : ∀ c ∈ l, c.Clo) : (Tr.hs z n l).Clo := .hs _ _ _ fun i c hc => hl c (List.mem_of_getElem? hc)
theorem Clo.map {α : Type} {l : List α} {k : α → Value} {v : α → AV} (h : ∀ x, (v x).clo1 = true) : (Tr.mp (l.map fun x => (k x, v x))).Clo := .mp _ fun k' a hi => by
  obtain ⟨x, _, hx⟩ := List.mem_map.1 hi
  cases hx; exact h x

end Go.Proofs.Yteclchefihcjkaa.Am
