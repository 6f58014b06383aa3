/- Steps of the memory: a new row (cells of one's own; pure data; pure data with spare room behind it), a write into cells of one's own, an append in place. -/
import Derived.Test.YteclchefihcjkaaM1
import Derived.WalkKit
namespace Go.Proofs.Yteclchefihcjkaa.Am
open Go

theorem get_snoc {α : Type} {l : List α} {x y : α} {i : Nat} (h : (l ++ [x])[i]? = some y) : l[i]? = some y ∨ (i = l.length ∧ y = x) := by
  rcases Nat.lt_trichotomy i l.length with hl | hl | hl
  · rw [List.getElem?_append_left hl] at h; exact .inl h
  · subst hl; simp at h; exact .inr ⟨rfl, h.symm⟩
  · rw [List.getElem?_eq_none (by simp; omega)] at h; cases h

theorem get_set {α : Type} {l : List α} {x y : α} {i j : Nat} (h : (l.set j x)[i]? = some y) : (i ≠ j ∧ l[i]? = some y) ∨ (i = j ∧ y = x ∧ j < l.length) := by
  by_cases e : j = i
  · subst e
    rw [List.getElem?_set_self'] at h
    rcases Nat.lt_or_ge j l.length with hl | hl
    · rw [List.getElem?_eq_getElem hl] at h; simp at h; exact .inr ⟨rfl, h.symm, hl⟩
    · rw [List.getElem?_eq_none hl] at h; cases h
  · rw [List.getElem?_set_ne e] at h; exact .inl ⟨fun he => e he.symm, h⟩

theorem lt_of_get {α : Type} {l : List α} {i : Nat} {x : α} (h : l[i]? = some x) : i < l.length := by
  rcases Nat.lt_or_ge i l.length with hl | hl
  · exact hl
  · rw [List.getElem?_eq_none hl] at h; cases h

theorem alt_of_get {α : Type} {l : Array α} {i : Nat} {x : α} (h : l[i]? = some x) : i < l.size := by
  rcases Nat.lt_or_ge i l.size with hl | hl
  · exact hl
  · rw [Array.getElem?_eq_none hl] at h; cases h

theorem block_lt {w : World} {a : Addr} {v : Value} (h : w.cell? a = some v) : a.block < w.heap.size := by
  unfold World.cell? at h
  cases hb : w.heap[a.block]? with
  | none => rw [hb] at h; cases h
  | some o => exact alt_of_get hb

theorem cell_of {w w' : World} {a : Addr} (h : w'.heap[a.block]? = w.heap[a.block]?) : w'.cell? a = w.cell? a := by unfold World.cell?; rw [h]

theorem Blk.of {w w' : World} {b l : Nat} (h : w'.heap[b]? = w.heap[b]?) (hb : Blk w b l) : Blk w' b l := by
  obtain ⟨c, e, fr, h1, h2, h3⟩ := hb
  exact ⟨c, e, fr, h.trans h1, h2, h3⟩

theorem MapR.mono {g g' : Gh} {n n' : Nat} (h : Gle n g g') (hn : n ≤ n') {es : List (Value × AV)} {ents : Array MapEntry} {clock : Nat} (hm : MapR g n es ents clock) : MapR g' n' es ents clock :=
  ⟨hm.st, hm.size, hm.keys, fun k a hi => let ⟨x, h1, h2, h3⟩ := hm.get k a hi; ⟨x, h1, h2, h3.mono h hn⟩, hm.all⟩

/-- A tree, under another name, where its blocks are as they were. -/
theorem TrR.move {g g' : Gh} {n n' : Nat} {w w' : World} {ow ow' : Nat → Option (List Nat)} (hg : Gle n g g') (hn : n ≤ n') {p : List Nat} {t : Tr} {v : Value} (h : TrR g n w ow p t v) :
    ∀ p', (∀ b r, ow b = some (p ++ r) → ow' b = some (p' ++ r) ∧ (∀ o, g'.ro b o = g.ro b o) ∧ w'.heap[b]? = w.heap[b]?) → TrR g' n' w' ow' p' t v := by
  induction h with
  | av p a v h => exact fun p' _ => .av p' a v (h.mono hg hn)
  | hs p z len cs b o l cap f ho hb hc hlen hl hro hv _ ih =>
    intro p' hb'
    obtain ⟨k1, k2, k3⟩ := hb' b [] (by simpa using ho)
    refine .hs p' z len cs b o l cap f (by simpa using k1) (hb.of k3) hc hlen hl (fun o' => (k2 o').trans (hro o')) (fun k c hk => (cell_of k3).trans (hv k c hk)) fun k c hk => ih k c hk _ fun b' r hr => ?_
    have := hb' b' (k :: r) (by simpa using hr)
    simpa using this
  | hn p z a => exact fun p' _ => .hn p' z a
  | sr p z es a len cap hlen h hk =>
    intro p' hb'
    refine .sr p' z es a len cap hlen (h.mono hg hn) (hk.imp id fun ⟨h1, h2, h3⟩ => ?_)
    obtain ⟨k1, k2, k3⟩ := hb' a.block [] (by simpa using h1)
    exact ⟨by simpa using k1, h2.of k3, fun o v hv => h3 o v (by rw [← k2]; exact hv)⟩
  | srn p z => exact fun p' _ => .srn p' z
  | pt p cs b o l f ho hb hl hro hv _ ih =>
    intro p' hb'
    obtain ⟨k1, k2, k3⟩ := hb' b [] (by simpa using ho)
    refine .pt p' cs b o l f (by simpa using k1) (hb.of k3) hl (fun o' => (k2 o').trans (hro o')) (fun k c hk => (cell_of k3).trans (hv k c hk)) fun k c hk => ih k c hk _ fun b' r hr => ?_
    have := hb' b' (k :: r) (by simpa using hr)
    simpa using this
  | mp p es b ents clock ho hro hb hm =>
    intro p' hb'
    obtain ⟨k1, k2, k3⟩ := hb' b [] (by simpa using ho)
    exact .mp p' es b ents clock (by simpa using k1) (fun o => (k2 o).trans (hro o)) (k3.trans hb) (hm.mono hg hn)

/-- An entry goes on to be, where its blocks are as they were. -/
theorem EntR.keep {g g' : Gh} {n n' : Nat} {w w' : World} {id : Nat} {e : Ent} (h : EntR g n w id e) (hid : id < n) (hg : Gle n g g') (hn : n ≤ n')
    (hb : ∀ b, g.ow b = some id → g'.ow b = some id ∧ (∀ o, g'.ro b o = g.ro b o) ∧ w'.heap[b]? = w.heap[b]?) : EntR g' n' w' id e := by
  have hmu := hg.mu id hid
  cases e with
  | dead => trivial
  | tok =>
    simp only [EntR]
    rw [hmu]
    rcases h with h | ⟨h1, h2, h3⟩
    · exact .inl h
    · obtain ⟨ho, hro, hh⟩ := hb _ h1
      exact .inr ⟨ho, h2.of hh, fun o v hv => h3 o v (by rw [← hro]; exact hv)⟩
  | cells cs =>
    simp only [EntR]
    rw [hmu]
    rcases h with h | ⟨h1, h2, h3, h4, h5⟩
    · exact .inl h
    obtain ⟨ho, hro, hh⟩ := hb _ h1
    refine .inr ⟨ho, h2.of hh, h3, fun o => by rw [hro]; exact h4 o, fun k c hc => ?_⟩
    obtain ⟨v, hv, hr⟩ := h5 k c hc
    exact ⟨v, (cell_of (w := w) (w' := w') hh).trans hv, hr.mono hg hn⟩
  | map es =>
    obtain ⟨h1, h2, ents, clock, h3, h4⟩ := h
    obtain ⟨ho, hro, hh⟩ := hb _ h1
    simp only [EntR]
    rw [hmu]
    exact ⟨ho, fun o => by rw [hro]; exact h2 o, ents, clock, hh.trans h3, h4.mono hg hn⟩
  | tr cs =>
    simp only [EntR]
    rw [hmu]
    rcases h with h | ⟨ow, h0, h1, h2, h3, h4, h5⟩
    · exact .inl h
    obtain ⟨ho, hro, hh⟩ := hb _ (h0 _ _ h1)
    refine .inr ⟨ow, fun b p hp => (hb b (h0 b p hp)).1, h1, h2.of hh, h3, fun o => by rw [hro]; exact h4 o, fun k c hc => ?_⟩
    obtain ⟨v, hv, hr⟩ := h5 k c hc
    exact ⟨v, (cell_of (w := w) (w' := w') hh).trans hv, hr.move hg hn [k] fun b r hr => ⟨hr, (hb b (h0 b _ hr)).2⟩⟩
  | mpi es ents clock =>
    obtain ⟨h1, h2, h3, h4⟩ := h
    obtain ⟨ho, hro, hh⟩ := hb _ h1
    simp only [EntR]
    rw [hmu]
    exact ⟨ho, fun o => by rw [hro]; exact h2 o, hh.trans h3, h4.mono hg hn⟩
  | itr mid since seen stepped =>
    obtain ⟨h0, h1, h2, h3, h4⟩ := h
    obtain ⟨ho, hro, hh⟩ := hb _ h1
    simp only [EntR]
    rw [hmu, hg.mu mid h0]
    exact ⟨Nat.lt_of_lt_of_le h0 hn, ho, fun o => by rw [hro]; exact h2 o, h3, hh.trans h4⟩

theorem EntR.own {g : Gh} {n : Nat} {w : World} {id : Nat} {e : Ent} (h : EntR g n w id e) (hid : id < n) : (∀ g' n' w', Gle n g g' → EntR g' n' w' id e) ∨ g.ow (g.mu id).b = some id := by
  cases e with
  | dead => exact .inl fun _ _ _ _ => trivial
  | tok =>
    rcases h with h | h
    · exact .inl fun g' _ _ hg => .inl (by rw [hg.mu id hid]; exact h)
    · exact .inr h.1
  | cells cs =>
    rcases h with h | h
    · exact .inl fun g' _ _ hg => .inl (by rw [hg.mu id hid]; exact h)
    · exact .inr h.1
  | map es => exact .inr h.1
  | tr cs =>
    rcases h with h | ⟨ow, h0, h1, _⟩
    · exact .inl fun g' _ _ hg => .inl (by rw [hg.mu id hid]; exact h)
    · exact .inr (h0 _ _ h1)
  | mpi es ents clock => exact .inr h.1
  | itr mid since seen stepped => exact .inr h.2.1

theorem MR.of_heap {g : Gh} {H : Mem} {w w' : World} (h : MR g H w) (hh : w'.heap = w.heap) : MR g H w' :=
  ⟨fun b o v hv => (cell_of (by rw [hh])).trans (h.ro b o v hv), fun id e he => (h.ent id e he).keep (lt_of_get he) (.refl _ _) (Nat.le_refl _) fun b ho => ⟨ho, fun _ => rfl, by rw [hh]⟩, fun b id ho => by rw [hh]; exact h.ow b id ho⟩

theorem MR.ro_lt {g : Gh} {H : Mem} {w : World} (h : MR g H w) {b o : Nat} {v : Value} (hv : g.ro b o = some v) : b < w.heap.size := block_lt (a := ⟨b, o, none⟩) (h.ro b o v hv)

/-- w1 is w and one row more. -/
structure Push (w w1 : World) (c : Array Value) (e : TypeId) (fr : Nat × Nat) : Prop where
  heap : w1.heap = w.heap.push (.cells c e fr)
  os : w1.os = w.os
  tape : w1.tape = w.tape
  output : w1.output = w.output

section push
variable {w w1 : World} {c : Array Value} {e : TypeId} {fr : Nat × Nat} (hp : Push w w1 c e fr)
include hp

theorem Push.old {b : Nat} (h : b < w.heap.size) : w1.heap[b]? = w.heap[b]? := by rw [hp.heap, Array.getElem?_push, if_neg (by omega)]
theorem Push.new : w1.heap[w.heap.size]? = some (.cells c e fr) := by rw [hp.heap, Array.getElem?_push, if_pos rfl]
theorem Push.size : w1.heap.size = w.heap.size + 1 := by rw [hp.heap, Array.size_push]
theorem Push.cell (o : Nat) : w1.cell? ⟨w.heap.size, o, none⟩ = c[o]? := by unfold World.cell?; rw [hp.new]; rfl
theorem Push.cell_old {a : Addr} (h : a.block < w.heap.size) : w1.cell? a = w.cell? a := cell_of (hp.old h)
theorem Push.blk {l : Nat} (hl : l ≤ c.size) (hfr : ∀ o, o < l → (decide (fr.1 ≤ o) && decide (o < fr.2)) = false) : Blk w1 w.heap.size l := ⟨c, e, fr, hp.new, hl, hfr⟩
end push

def Gh.addE (g : Gh) (n : Nat) (p : Pl) : Gh := { g with ow := fun b => if b = p.b then some n else g.ow b, mu := fun i => if i = n then p else g.mu i }
def Gh.addR (g : Gh) (b k : Nat) (c : Array Value) : Gh := { g with ro := fun b' o => if b' = b ∧ o < k then c[o]? else g.ro b' o }

/-- The values of cells read as told. -/
def VRs (g : Gh) (n : Nat) (acs : List AV) (c : Array Value) : Prop := c.size = acs.length ∧ ∀ (i : Nat) a, acs[i]? = some a → VR g n a (c.getD i undef)

theorem VRs.mono {g g' : Gh} {n n' : Nat} (h : Gle n g g') (hn : n ≤ n') {acs : List AV} {c : Array Value} (hv : VRs g n acs c) : VRs g' n' acs c := ⟨hv.1, fun i a ha => (hv.2 i a ha).mono h hn⟩

theorem VRs.get {g : Gh} {n : Nat} {acs : List AV} {c : Array Value} (h : VRs g n acs c) {i : Nat} {a : AV} (ha : acs[i]? = some a) : ∃ v, c[i]? = some v ∧ VR g n a v := by
  have hl := lt_of_get ha
  have hs := h.1
  refine ⟨c.getD i undef, ?_, h.2 i a ha⟩
  rw [Array.getD_eq_getD_getElem?, Array.getElem?_eq_getElem (by omega)]
  rfl

/-- A new row of cells of one's own: a new entry. -/
theorem MR.push_cells {g : Gh} {H : Mem} {w w1 : World} {c : Array Value} {e : TypeId} {fr : Nat × Nat} (hm : MR g H w) (hp : Push w w1 c e fr)
    (hfr : ∀ o, o < c.size → (decide (fr.1 ≤ o) && decide (o < fr.2)) = false) {acs : List AV} (hle : acs.length ≤ c.size)
    (hv : ∀ (i : Nat) a, acs[i]? = some a → ∃ v, c[i]? = some v ∧ VR g H.length a v) :
    MR (g.addE H.length ⟨w.heap.size, 0, c.size⟩) (H ++ [.cells acs]) w1 ∧ Ev H.length g w (g.addE H.length ⟨w.heap.size, 0, c.size⟩) w1 := by
  have hgle : Gle H.length g (g.addE H.length ⟨w.heap.size, 0, c.size⟩) := ⟨fun _ _ _ h => h, fun id hid => by simp only [Gh.addE]; rw [if_neg (by omega)]⟩
  refine ⟨⟨fun b o v hro => ?_, fun id x hx => ?_, fun b id ho => ?_⟩, ⟨hgle, fun b hb ho => ⟨?_, hp.old hb⟩, by rw [hp.size]; omega, hp.os, hp.tape, hp.output⟩⟩
  · have := hm.ro b o v hro
    rw [hp.cell_old (block_lt this)]; exact this
  · rcases get_snoc hx with hx | ⟨rfl, rfl⟩
    · have hid := lt_of_get hx
      have he := hm.ent id x hx
      rcases he.own hid with hfr' | hown
      · exact hfr' _ _ _ hgle
      · refine he.keep hid hgle (by simp) fun b hown => ?_
        have hb := (hm.ow _ _ hown).1
        refine ⟨?_, fun _ => rfl, hp.old hb⟩
        simp only [Gh.addE]; rw [if_neg (by omega)]; exact hown
    · simp only [EntR, Gh.addE, if_pos]
      refine .inr ⟨trivial, hp.blk (Nat.le_refl _) hfr, by omega, fun o => ?_, fun k a ha => ?_⟩
      · cases hro : g.ro w.heap.size o with
        | none => rfl
        | some v => have := hm.ro_lt hro; omega
      · obtain ⟨v, h1, h2⟩ := hv k a ha
        refine ⟨v, by rw [Nat.zero_add, hp.cell]; exact h1, h2.mono hgle (by simp)⟩
  · simp only [Gh.addE] at ho
    by_cases hb : b = w.heap.size
    · rw [if_pos hb] at ho; cases ho; exact ⟨by rw [hp.size]; omega, by simp⟩
    · rw [if_neg hb] at ho
      have := hm.ow b id ho
      exact ⟨by rw [hp.size]; omega, by simp; omega⟩
  · simp only [Gh.addE]; rw [if_neg (by omega)]; exact ho

/-- A new row of which the first k cells never change. -/
theorem MR.push_ro {g : Gh} {H : Mem} {w w1 : World} {c : Array Value} {e : TypeId} {fr : Nat × Nat} (hm : MR g H w) (hp : Push w w1 c e fr) (k : Nat) :
    MR (g.addR w.heap.size k c) H w1 ∧ Ev H.length g w (g.addR w.heap.size k c) w1 := by
  have hnone : ∀ o, g.ro w.heap.size o = none := fun o => by
    cases hro : g.ro w.heap.size o with
    | none => rfl
    | some v => have := hm.ro_lt hro; omega
  have hgle : Gle H.length g (g.addR w.heap.size k c) := ⟨fun b o v h => by
    simp only [Gh.addR]
    by_cases hb : b = w.heap.size ∧ o < k
    · rw [hb.1, hnone] at h; cases h
    · rw [if_neg hb]; exact h, fun id hid => rfl⟩
  refine ⟨⟨fun b o v hro => ?_, fun id x hx => ?_, fun b id ho => ?_⟩, ⟨hgle, fun b hb ho => ⟨ho, hp.old hb⟩, by rw [hp.size]; omega, hp.os, hp.tape, hp.output⟩⟩
  · simp only [Gh.addR] at hro
    by_cases hb : b = w.heap.size ∧ o < k
    · rw [if_pos hb] at hro; rw [hb.1, hp.cell]; exact hro
    · rw [if_neg hb] at hro
      have := hm.ro b o v hro
      rw [hp.cell_old (block_lt this)]; exact this
  · have hid := lt_of_get hx
    have he := hm.ent id x hx
    rcases he.own hid with hfr' | hown
    · exact hfr' _ _ _ hgle
    · refine he.keep hid hgle (Nat.le_refl _) fun b hown => ?_
      have hb := (hm.ow _ _ hown).1
      refine ⟨hown, fun o => ?_, hp.old hb⟩
      simp only [Gh.addR]; rw [if_neg (by omega)]
  · have := hm.ow b id ho
    exact ⟨by rw [hp.size]; omega, this.2⟩

/-- The same, and what lies behind them is spare room: a new entry. -/
theorem MR.push_tok {g : Gh} {H : Mem} {w w1 : World} {c : Array Value} {e : TypeId} {fr : Nat × Nat} (hm : MR g H w) (hp : Push w w1 c e fr)
    (hfr : ∀ o, o < c.size → (decide (fr.1 ≤ o) && decide (o < fr.2)) = false) (k : Nat) :
    MR ((g.addR w.heap.size k c).addE H.length ⟨w.heap.size, k, c.size⟩) (H ++ [.tok]) w1 ∧ Ev H.length g w ((g.addR w.heap.size k c).addE H.length ⟨w.heap.size, k, c.size⟩) w1 := by
  obtain ⟨hm1, he1⟩ := hm.push_ro hp k
  have hgle : Gle H.length (g.addR w.heap.size k c) ((g.addR w.heap.size k c).addE H.length ⟨w.heap.size, k, c.size⟩) := ⟨fun _ _ _ h => h, fun id hid => by simp only [Gh.addE]; rw [if_neg (by omega)]⟩
  have hnow : g.ow w.heap.size = none := by
    cases ho : g.ow w.heap.size with
    | none => rfl
    | some id => have := (hm.ow _ _ ho).1; omega
  refine ⟨⟨hm1.ro, fun id x hx => ?_, fun b id ho => ?_⟩, ⟨he1.gle.trans hgle (Nat.le_refl _), fun b hb ho => ⟨?_, (he1.un b hb ho).2⟩, he1.size, he1.os, he1.tape, he1.output⟩⟩
  · rcases get_snoc hx with hx | ⟨rfl, rfl⟩
    · have hid := lt_of_get hx
      have he := hm1.ent id x hx
      rcases he.own hid with hfr' | hown
      · exact hfr' _ _ _ hgle
      · refine he.keep hid hgle (by simp) fun b hown => ⟨?_, fun _ => rfl, rfl⟩
        have hb : b ≠ w.heap.size := fun hb => by
          rw [hb] at hown
          have : g.ow w.heap.size = some id := hown
          rw [hnow] at this; cases this
        simp only [Gh.addE]; rw [if_neg hb]; exact hown
    · simp only [EntR, Gh.addE, if_pos]
      refine .inr ⟨trivial, hp.blk (Nat.le_refl _) hfr, fun o v hv => ?_⟩
      simp only [Gh.addR] at hv
      rcases Nat.lt_or_ge o k with hk | hk
      · exact hk
      · rw [if_neg (by omega)] at hv
        have := hm.ro_lt hv; omega
  · simp only [Gh.addE] at ho
    by_cases hb : b = w.heap.size
    · rw [if_pos hb] at ho; cases ho; exact ⟨by rw [hp.size]; omega, by simp⟩
    · rw [if_neg hb] at ho
      have := hm1.ow b id ho
      exact ⟨this.1, by simp; omega⟩
  · simp only [Gh.addE]; rw [if_neg (by omega)]; exact ho

/-- An entry that is spare room of nothing. -/
theorem MR.push_void {g : Gh} {H : Mem} {w : World} (hm : MR g H w) :
    MR ({ g with mu := fun i => if i = H.length then ⟨0, 1, 0⟩ else g.mu i } : Gh) (H ++ [.tok]) w ∧ Ev H.length g w ({ g with mu := fun i => if i = H.length then ⟨0, 1, 0⟩ else g.mu i } : Gh) w := by
  have hgle : Gle H.length g ({ g with mu := fun i => if i = H.length then ⟨0, 1, 0⟩ else g.mu i } : Gh) := ⟨fun _ _ _ h => h, fun id hid => by simp only; rw [if_neg (by omega)]⟩
  refine ⟨⟨hm.ro, fun id x hx => ?_, fun b id ho => ?_⟩, ⟨hgle, fun b _ ho => ⟨ho, rfl⟩, Nat.le_refl _, rfl, rfl, rfl⟩⟩
  · rcases get_snoc hx with hx | ⟨rfl, rfl⟩
    · exact (hm.ent id x hx).keep (lt_of_get hx) hgle (by simp) fun b ho => ⟨ho, fun _ => rfl, rfl⟩
    · exact .inl (by simp)
  · have := hm.ow b id ho
    exact ⟨this.1, by simp; omega⟩

/-- Spare room that goes by another entry from here on. -/
theorem MR.move_tok {g : Gh} {H : Mem} {w : World} {t : Nat} (hm : MR g H w) (ht : H[t]? = some .tok) :
    MR ({ g with mu := fun i => if i = H.length then g.mu t else g.mu i, ow := fun b => if g.ow b = some t then some H.length else g.ow b } : Gh) (H.set t .dead ++ [.tok]) w ∧
    Ev H.length g w ({ g with mu := fun i => if i = H.length then g.mu t else g.mu i, ow := fun b => if g.ow b = some t then some H.length else g.ow b } : Gh) w := by
  have hgle : Gle H.length g ({ g with mu := fun i => if i = H.length then g.mu t else g.mu i, ow := fun b => if g.ow b = some t then some H.length else g.ow b } : Gh) := ⟨fun _ _ _ h => h, fun id hid => by simp only; rw [if_neg (by omega)]⟩
  refine ⟨⟨hm.ro, fun id x hx => ?_, fun b id ho => ?_⟩, ⟨hgle, fun b _ ho => ⟨by simp only [ho]; simp, rfl⟩, Nat.le_refl _, rfl, rfl, rfl⟩⟩
  · rcases get_snoc hx with hx | ⟨rfl, rfl⟩
    · rcases get_set hx with ⟨hne, hx⟩ | ⟨rfl, rfl, _⟩
      · have hid := lt_of_get hx
        have he := hm.ent id x hx
        rcases he.own hid with hfr' | hown
        · exact hfr' _ _ _ hgle
        · refine he.keep hid hgle (by simp) fun b hown => ⟨?_, fun _ => rfl, rfl⟩
          simp only [hown, Option.some.injEq]; rw [if_neg hne]
      · trivial
    · have he := hm.ent t _ ht
      have hl : (H.set t Ent.dead).length = H.length := by simp
      simp only [EntR, hl, if_true]
      rcases he with he | ⟨h1, h2, h3⟩
      · exact .inl he
      · exact .inr ⟨by rw [if_pos h1], h2, h3⟩
  · simp only at ho
    split at ho
    · rename_i h1; cases ho
      exact ⟨(hm.ow b t h1).1, by simp⟩
    · have := hm.ow b id ho
      exact ⟨this.1, by simp; omega⟩

/-- w1 is w with another object in block b. -/
structure Upd (w w1 : World) (b : Nat) (o : Obj) : Prop where
  heap : w1.heap = w.heap.setIfInBounds b o
  os : w1.os = w.os
  tape : w1.tape = w.tape
  output : w1.output = w.output

section upd
variable {w w1 : World} {b : Nat} {o : Obj} (hu : Upd w w1 b o)
include hu
theorem Upd.other {b' : Nat} (h : b' ≠ b) : w1.heap[b']? = w.heap[b']? := by rw [hu.heap, Array.getElem?_setIfInBounds_ne (Ne.symm h)]
theorem Upd.same (h : b < w.heap.size) : w1.heap[b]? = some o := by rw [hu.heap, Array.getElem?_setIfInBounds_self_of_lt h]
theorem Upd.size : w1.heap.size = w.heap.size := by rw [hu.heap]; simp
theorem Upd.cell_other {a : Addr} (h : a.block ≠ b) : w1.cell? a = w.cell? a := cell_of (hu.other h)
end upd

/-- A write into cells of one's own. -/
theorem MR.put {g : Gh} {H : Mem} {w w1 : World} {id : Nat} {cs cs' : List AV} {c c' : Array Value} {e : TypeId} {fr : Nat × Nat} (hm : MR g H w) (hid : H[id]? = some (.cells cs)) (hne0 : cs ≠ [])
    (hb : w.heap[(g.mu id).b]? = some (.cells c e fr)) (hu : Upd w w1 (g.mu id).b (.cells c' e fr)) (hs : c'.size = c.size) (hl : cs'.length = cs.length)
    (hv : ∀ (k : Nat) a, cs'[k]? = some a → ∃ v, c'[(g.mu id).o + k]? = some v ∧ VR g H.length a v) :
    MR g (H.set id (.cells cs')) w1 ∧ Ev H.length g w g w1 := by
  have hx := hm.ent id _ hid
  obtain ⟨h1, h2, h3, h4, h5⟩ := hx.resolve_left fun h => hne0 h.1
  have hlt := (hm.ow _ _ h1).1
  refine ⟨⟨fun b o v hro => ?_, fun id' x hx => ?_, fun b id' ho => ?_⟩, ⟨.refl _ _, fun b hb' ho => ⟨ho, hu.other fun hbb => ?_⟩, by rw [hu.size]; omega, hu.os, hu.tape, hu.output⟩⟩
  · have := hm.ro b o v hro
    rw [hu.cell_other]
    · exact this
    · intro hbb; simp only at hbb; rw [hbb, h4] at hro; cases hro
  · rcases get_set hx with ⟨hne, hx⟩ | ⟨rfl, rfl, _⟩
    · have hid' := lt_of_get hx
      have he := hm.ent id' x hx
      rcases he.own hid' with hfr' | hown
      · exact hfr' _ _ _ (.refl _ _)
      · refine he.keep hid' (.refl _ _) (by simp) fun b hown => ⟨hown, fun _ => rfl, hu.other fun hbb => ?_⟩
        rw [hbb, h1] at hown; cases hown; exact hne rfl
    · simp only [EntR]
      refine .inr ⟨h1, ?_, by omega, h4, fun k a ha => ?_⟩
      · obtain ⟨c2, e2, fr2, g1, g2, g3⟩ := h2
        rw [hb] at g1; cases g1
        exact ⟨c', e, fr, hu.same hlt, by omega, g3⟩
      · obtain ⟨v, k1, k2⟩ := hv k a ha
        refine ⟨v, ?_, by simpa using k2⟩
        unfold World.cell?
        rw [hu.same hlt]; exact k1
  · have := hm.ow b id' ho
    rw [hu.size]; exact ⟨this.1, by simpa using this.2⟩
  · rw [hbb, h1] at ho; cases ho

theorem mem_same {M : Mem} {i : Nat} {x : Ent} (h : M[i]? = some x) : M.set i x = M := by
  apply List.ext_getElem?
  intro k
  by_cases e : i = k
  · subst e; rw [List.getElem?_set_self (lt_of_get h), h]
  · rw [List.getElem?_set_ne e]

theorem MR.cellAt {g : Gh} {H : Mem} {w : World} (hm : MR g H w) {id : Nat} {cs : List AV} (he : H[id]? = some (.cells cs)) (k : Nat) (c : AV) (hc : cs[k]? = some c) :
    ∃ v, w.cell? ⟨(g.mu id).b, (g.mu id).o + k, none⟩ = some v ∧ VR g H.length c v := ((hm.ent id _ he).resolve_left fun e => ne_nil_of_get hc e.1).2.2.2.2 k c hc

/-- Cells that are some, or that lie somewhere, are one's own. -/
theorem MR.owned {g : Gh} {H : Mem} {w : World} (hm : MR g H w) {id : Nat} {cs : List AV} (he : H[id]? = some (.cells cs)) (h : cs ≠ [] ∨ (g.mu id).o ≤ (g.mu id).l) :
    g.ow (g.mu id).b = some id ∧ Blk w (g.mu id).b (g.mu id).l ∧ (g.mu id).o + cs.length ≤ (g.mu id).l ∧ (∀ o, g.ro (g.mu id).b o = none) ∧
      ∀ (k : Nat) c, cs[k]? = some c → ∃ v, w.cell? ⟨(g.mu id).b, (g.mu id).o + k, none⟩ = some v ∧ VR g H.length c v :=
  (hm.ent id _ he).resolve_left fun e => h.elim (fun h => h e.1) fun h => absurd e.2 (by omega)

/-- No cells, nowhere: a new entry. -/
theorem MR.push_none {g : Gh} {H : Mem} {w : World} (hm : MR g H w) :
    MR ({ g with mu := fun i => if i = H.length then ⟨0, 1, 0⟩ else g.mu i } : Gh) (H ++ [.cells []]) w ∧ Ev H.length g w ({ g with mu := fun i => if i = H.length then ⟨0, 1, 0⟩ else g.mu i } : Gh) w := by
  have hgle : Gle H.length g ({ g with mu := fun i => if i = H.length then ⟨0, 1, 0⟩ else g.mu i } : Gh) := ⟨fun _ _ _ h => h, fun id hid => by simp only; rw [if_neg (by omega)]⟩
  refine ⟨⟨hm.ro, fun id x hx => ?_, fun b id ho => ?_⟩, ⟨hgle, fun b _ ho => ⟨ho, rfl⟩, Nat.le_refl _, rfl, rfl, rfl⟩⟩
  · rcases get_snoc hx with hx | ⟨rfl, rfl⟩
    · exact (hm.ent id x hx).keep (lt_of_get hx) hgle (by simp) fun b ho => ⟨ho, fun _ => rfl, rfl⟩
    · exact .inl ⟨rfl, by simp⟩
  · have := hm.ow b id ho
    exact ⟨this.1, by simp; omega⟩

theorem MR.kill {g : Gh} {H : Mem} {w : World} (hm : MR g H w) (id : Nat) : MR g (H.set id .dead) w :=
  ⟨hm.ro, fun id' x hx => by
    rcases get_set hx with ⟨hne, hx⟩ | ⟨rfl, rfl, _⟩
    · exact (hm.ent id' x hx).keep (lt_of_get hx) (.refl _ _) (by simp) fun b ho => ⟨ho, fun _ => rfl, rfl⟩
    · trivial, fun b id' ho => by have := hm.ow b id' ho; exact ⟨this.1, by simpa using this.2⟩⟩

/-- What lies behind a beginning is forgotten. -/
theorem MR.take {g : Gh} {H H' : Mem} {w : World} (hm : MR g (H ++ H') w) (hv : ∀ (id : Nat) e, H[id]? = some e → EntR g H.length w id e) :
    ∃ g', (∀ b, g.ow b = none → g'.ow b = none) ∧ g'.ro = g.ro ∧ g'.mu = g.mu ∧ MR g' H w := by
  refine ⟨{ g with ow := fun b => match g.ow b with | some id => if id < H.length then some id else none | none => none }, fun b hb => ?_, rfl, rfl, ⟨hm.ro, fun id e he => ?_, fun b id ho => ?_⟩⟩
  · simp only [hb]
  · have hid := lt_of_get he
    have h := hv id e he
    rcases h.own hid with hfr' | hown
    · exact hfr' _ _ _ ⟨fun _ _ _ h => h, fun _ _ => rfl⟩
    · refine EntR.keep (g := g) h hid ⟨fun _ _ _ h => h, fun _ _ => rfl⟩ (Nat.le_refl _) fun b hown => ⟨?_, fun _ => rfl, rfl⟩
      simp only [hown, if_pos hid]
  · cases hb : g.ow b with
    | none => simp only [hb] at ho; cases ho
    | some id' =>
      simp only [hb] at ho
      by_cases hl : id' < H.length
      · rw [if_pos hl] at ho; cases ho; exact ⟨(hm.ow b id hb).1, hl⟩
      · rw [if_neg hl] at ho; cases ho

/-- Which entries a value speaks of: those below n. -/
inductive Bd (n : Nat) : AV → Prop
  | any : Bd n .any
  | sc (v : Value) : Bd n (.sc v)
  | sl (z : Nat) (es : List (List PV)) (k : Tk) (h : ∀ t, k = .tk t → t < n) : Bd n (.sl z es k)
  | ag (cs : List AV) (h : ∀ (i : Nat) c, cs[i]? = some c → Bd n c) : Bd n (.ag cs)
  | tp (cs : List AV) (h : ∀ (i : Nat) c, cs[i]? = some c → Bd n c) : Bd n (.tp cs)
  | pt (id off : Nat) (h : id < n) : Bd n (.pt id off)
  | ep (cs : List PV) : Bd n (.ep cs)
  | hs (id off len mc s : Nat) (h : id < n) : Bd n (.hs id off len mc s)
  | mp (id : Nat) (h : id < n) : Bd n (.mp id)
  | fn (f : Fn) (fs cs : List AV) (hf : ∀ (i : Nat) c, fs[i]? = some c → Bd n c) (hc : ∀ (i : Nat) c, cs[i]? = some c → Bd n c) : Bd n (.fn f fs cs)

theorem VR.bd {g : Gh} {n : Nat} {a : AV} {v : Value} (h : VR g n a v) : Bd n a := by
  induction h with
  | any v => exact .any
  | sc v => exact .sc v
  | nil z k hk => exact .sl z [] k hk
  | sl z es k a cap f hsp hcap hz hrow hk => exact .sl z es k fun t e => by subst e; exact hk.1
  | ag cs vs hs _ ih => exact .ag cs ih
  | tp cs vs hs _ ih => exact .tp cs ih
  | pt id off hid => exact .pt id off hid
  | ep cs a f hsp hrow => exact .ep cs
  | hs id off len mc s cap hid hl hmc hcap => exact .hs id off len mc s hid
  | hn id off s a hid => exact .hs id off 0 0 s hid
  | mp id hid => exact .mp id hid
  | fn f fs cs vf vc h1 h2 _ _ i1 i2 => exact .fn f fs cs i1 i2

theorem VR.rebound {g : Gh} {n m : Nat} {a : AV} {v : Value} (h : VR g n a v) (hb : Bd m a) : VR g m a v := by
  induction h with
  | any v => exact .any v
  | sc v => exact .sc v
  | nil z k hk => cases hb with | sl _ _ _ h => exact .nil z k h
  | sl z es k a cap f hsp hcap hz hrow hk =>
    refine .sl z es k a cap f hsp hcap hz hrow ?_
    cases k with
    | no => trivial
    | ex => exact hk
    | tk t => cases hb with | sl _ _ _ h => exact ⟨h t rfl, hk.2⟩
  | ag cs vs hs _ ih => cases hb with | ag _ h => exact .ag cs vs hs fun i c hc => ih i c hc (h i c hc)
  | tp cs vs hs _ ih => cases hb with | tp _ h => exact .tp cs vs hs fun i c hc => ih i c hc (h i c hc)
  | pt id off hid => cases hb with | pt _ _ h => exact .pt id off h
  | ep cs a f hsp hrow => exact .ep cs a f hsp hrow
  | hs id off len mc s cap hid hl hmc hcap => cases hb with | hs _ _ _ _ _ h => exact .hs id off len mc s cap h hl hmc hcap
  | hn id off s a hid => cases hb with | hs _ _ _ _ _ h => exact .hn id off s a h
  | mp id hid => cases hb with | mp _ h => exact .mp id h
  | fn f fs cs vf vc h1 h2 _ _ i1 i2 => cases hb with | fn _ _ _ hf hc => exact .fn f fs cs vf vc h1 h2 (fun i c h => i1 i c h (hf i c h)) (fun i c h => i2 i c h (hc i c h))

/-- All cells of a tree, maps' too. -/
inductive Tr.All (Q : AV → Prop) : Tr → Prop
  | av (a : AV) (h : Q a) : Tr.All Q (.av a)
  | hs (z len : Nat) (cs : List Tr) (h : ∀ (i : Nat) c, cs[i]? = some c → Tr.All Q c) : Tr.All Q (.hs z len cs)
  | sr (z : Nat) (es : List (List PV)) : Tr.All Q (.sr z es)
  | pt (cs : List Tr) (h : ∀ (i : Nat) c, cs[i]? = some c → Tr.All Q c) : Tr.All Q (.pt cs)
  | mp (es : List (Value × AV)) (h : ∀ k a, (k, a) ∈ es → Q a) : Tr.All Q (.mp es)

theorem Tr.All.mono {Q Q' : AV → Prop} (hq : ∀ a, Q a → Q' a) {t : Tr} (h : t.All Q) : t.All Q' := by
  induction h with
  | av a h => exact .av a (hq a h)
  | hs z len cs _ ih => exact .hs z len cs ih
  | sr z es => exact .sr z es
  | pt cs _ ih => exact .pt cs ih
  | mp es h => exact .mp es fun k a hi => hq a (h k a hi)

theorem TrR.bd {g : Gh} {n : Nat} {w : World} {ow : Nat → Option (List Nat)} {p : List Nat} {t : Tr} {v : Value} (h : TrR g n w ow p t v) : t.All (Bd n) := by
  induction h with
  | av p a v h => exact .av a h.bd
  | hs p z len cs b o l cap f ho hb hc hlen hl hro hv _ ih => exact .hs z len cs ih
  | hn p z a => exact .hs z 0 [] fun i c h => by simp at h
  | sr p z es a len cap hlen h hk => exact .sr z es
  | srn p z => exact .sr z []
  | pt p cs b o l f ho hb hl hro hv _ ih => exact .pt cs ih
  | mp p es b ents clock ho hro hb hm => exact .mp es fun k a hi => let ⟨_, _, _, hr⟩ := hm.get k a hi; hr.bd

theorem MapR.rebound {g : Gh} {n m : Nat} {es : List (Value × AV)} {ents : Array MapEntry} {clock : Nat} (hm : MapR g n es ents clock) (h : ∀ k a, (k, a) ∈ es → Am.Bd m a) : MapR g m es ents clock :=
  ⟨hm.st, hm.size, hm.keys, fun k a hi => let ⟨x, x1, x2, x3⟩ := hm.get k a hi; ⟨x, x1, x2, x3.rebound (h k a hi)⟩, hm.all⟩

theorem TrR.rebound {g : Gh} {n m : Nat} {w : World} {ow : Nat → Option (List Nat)} {p : List Nat} {t : Tr} {v : Value} (h : TrR g n w ow p t v) : t.All (Bd m) → TrR g m w ow p t v := by
  induction h with
  | av p a v h => intro hb; cases hb with | av _ hb => exact .av p a v (h.rebound hb)
  | hs p z len cs b o l cap f ho hb hc hlen hl hro hv _ ih => intro h2; cases h2 with | hs _ _ _ h2 => exact .hs p z len cs b o l cap f ho hb hc hlen hl hro hv fun k c hk => ih k c hk (h2 k c hk)
  | hn p z a => exact fun _ => .hn p z a
  | sr p z es a len cap hlen h hk => exact fun _ => .sr p z es a len cap hlen (h.rebound (.sl z es .no fun t e => by cases e)) hk
  | srn p z => exact fun _ => .srn p z
  | pt p cs b o l f ho hb hl hro hv _ ih => intro h2; cases h2 with | pt _ h2 => exact .pt p cs b o l f ho hb hl hro hv fun k c hk => ih k c hk (h2 k c hk)
  | mp p es b ents clock ho hro hb hm =>
    intro h2
    cases h2 with
    | mp _ h2 => exact .mp p es b ents clock ho hro hb (hm.rebound h2)

def Ent.Bd (n : Nat) : Ent → Prop
  | .dead | .tok => True
  | .cells cs => ∀ (i : Nat) c, cs[i]? = some c → Am.Bd n c
  | .map es | .mpi es _ _ => ∀ k a, (k, a) ∈ es → Am.Bd n a
  | .itr mid _ _ _ => mid < n
  | .tr cs => ∀ (i : Nat) c, cs[i]? = some c → c.All (Am.Bd n)

theorem EntR.bd {g : Gh} {n : Nat} {w : World} {id : Nat} {e : Ent} (h : EntR g n w id e) : e.Bd n := by
  cases e with
  | dead => trivial
  | tok => trivial
  | cells cs => exact fun i c hc => let ⟨_, _, hr⟩ := (h.resolve_left fun e => ne_nil_of_get hc e.1).2.2.2.2 i c hc; hr.bd
  | map es => exact fun k a hi => by obtain ⟨_, _, ents, clock, _, hm⟩ := h; obtain ⟨x, _, _, hr⟩ := hm.get k a hi; exact hr.bd
  | mpi es ents clock => exact fun k a hi => by obtain ⟨x, _, _, hr⟩ := h.2.2.2.get k a hi; exact hr.bd
  | itr mid since seen stepped => exact h.1
  | tr cs =>
    intro i c hc
    obtain ⟨_, _, _, _, _, _, h5⟩ := h.resolve_left fun e => ne_nil_of_get hc e.1
    obtain ⟨_, _, hr⟩ := h5 i c hc
    exact hr.bd

theorem EntR.rebound {g : Gh} {n m : Nat} {w : World} {id : Nat} {e : Ent} (h : EntR g n w id e) (hb : e.Bd m) : EntR g m w id e := by
  cases e with
  | dead => trivial
  | tok => exact h
  | cells cs =>
    rcases h with h | ⟨h1, h2, h3, h4, h5⟩
    · exact .inl h
    exact .inr ⟨h1, h2, h3, h4, fun k c hc => let ⟨v, hv, hr⟩ := h5 k c hc; ⟨v, hv, hr.rebound (hb k c hc)⟩⟩
  | map es =>
    obtain ⟨h1, h2, ents, clock, h3, h4⟩ := h
    exact ⟨h1, h2, ents, clock, h3, h4.rebound hb⟩
  | mpi es ents clock => exact ⟨h.1, h.2.1, h.2.2.1, h.2.2.2.rebound hb⟩
  | itr mid since seen stepped => exact ⟨hb, h.2⟩
  | tr cs =>
    rcases h with h | ⟨ow, h0, h1, h2, h3, h4, h5⟩
    · exact .inl h
    exact .inr ⟨ow, h0, h1, h2, h3, h4, fun k c hc => let ⟨v, hv, hr⟩ := h5 k c hc; ⟨v, hv, hr.rebound (hb k c hc)⟩⟩

/-- What a call leaves behind, but for a beginning of the memory, is forgotten. -/
theorem SR.trim {n : Nat} {g : Gh} {w : World} {R R' : AV → Mem → Prop} {v : Value} {w' : World} (s : SR n g w R v w')
    (h : ∀ r H', R r H' → ∃ H1 tl, H' = H1 ++ tl ∧ n ≤ H1.length ∧ (∀ (id : Nat) e, H1[id]? = some e → e.Bd H1.length) ∧ Am.Bd H1.length r ∧ R' r H1) : SR n g w R' v w' := by
  obtain ⟨r, H', g', k, hv, hm, he, hn⟩ := s
  obtain ⟨H1, tl, rfl, h1, h2, h3, h4⟩ := h r H' k
  obtain ⟨g2, a1, a2, a3, a4⟩ := hm.take (fun id e hid => (hm.ent id e (by rw [List.getElem?_append_left (lt_of_get hid)]; exact hid)).rebound (h2 id e hid))
  have hg : Gle H1.length g' g2 := ⟨fun b o v h => by rw [a2]; exact h, fun id _ => by rw [a3]⟩
  exact ⟨r, H1, g2, h4, (hv.rebound h3).mono hg (Nat.le_refl _), a4, ⟨he.gle.trans hg h1, fun b hb ho => ⟨a1 b (he.un b hb ho).1, (he.un b hb ho).2⟩, he.size, he.os, he.tape, he.output⟩, h1⟩

theorem SR.mono' {n : Nat} {g : Gh} {w : World} {R R' : AV → Mem → Prop} {v : Value} {w' : World} (s : SR n g w R v w')
    (h : ∀ r H' g' v, R r H' → VR g' H'.length r v → ∃ r', R' r' H' ∧ VR g' H'.length r' v) : SR n g w R' v w' := by
  obtain ⟨r, H', g', k, hv, hm, he, hn⟩ := s
  obtain ⟨r', k', hv'⟩ := h r H' g' v k hv
  exact ⟨r', H', g', k', hv', hm, he, hn⟩

/-- A call that changes nothing but makes memory: all of that is forgotten, but for what the result speaks of. -/
theorem ACalls.pure {P : Program} {f : FuncId} {args : List AV} {H : Mem} {r0 : AV} (hb : Am.Bd H.length r0) (h : ACalls P f args H fun r H' => r = r0 ∧ ∃ tl, H' = H ++ tl) :
    ACalls P f args H fun r H' => r = r0 ∧ H' = H := by
  refine ⟨h.1, fun g w vals hm hs hv => (h.2 g w vals hm hs hv).mono ?_⟩
  rintro e w' ⟨v, he, s⟩
  refine ⟨v, he, s.trim ?_⟩
  rintro r H' ⟨rfl, tl, rfl⟩
  exact ⟨H, tl, rfl, Nat.le_refl _, fun id e he => (hm.ent id e he).bd, hb, rfl, rfl⟩

end Go.Proofs.Yteclchefihcjkaa.Am
