/- The values, the memory and the ghost of a logic by values over the model: what reads as what, and that it goes on to do so. -/
import Derived.Calls
import Derived.Orders
import Derived.Tactics
import Derived.Scope
import Derived.Laws.Entries
import Derived.MapKept
namespace Go.Proofs.Yteclchefihcjkaa.Am
open Go

/-- Pure data, one cell of it: a scalar, or a slice (elements of z cells; of none: nil, or not). -/
inductive PV where
  | sc (v : Value)
  | sl (z : Nat) (es : List (List PV))

/-- What is known of what lies behind a slice's end: nothing; that its capacity is its length; that entry t of the memory is its spare room. -/
inductive Tk where
  | no
  | ex
  | tk (t : Nat)

/-- What is known of a value. -/
inductive AV where
  | any
  | sc (v : Value)
  | sl (z : Nat) (es : List (List PV)) (k : Tk)
  | ag (cs : List AV)
  | tp (vs : List AV)
  | pt (id off : Nat)
  | ep (cs : List PV)
  | hs (id off len mc s : Nat)
  | mp (id : Nat)
  | fn (f : Fn) (first caps : List AV)

def PV.av : PV → AV
  | .sc v => .sc v
  | .sl z es => .sl z es .no

/-- What is owned, as a tree: a cell; a row of one's own; a row by value, and the spare room behind it; cells behind a pointer; a map. -/
inductive Tr where
  | av (a : AV)
  | hs (z len : Nat) (cs : List Tr)
  | sr (z : Nat) (es : List (List PV))
  | pt (cs : List Tr)
  | mp (es : List (Value × AV))

/-- An entry of the memory: none any more; the spare room behind a slice; cells; a map; cells and all that they own. -/
inductive Ent where
  | dead
  | tok
  | cells (cs : List AV)
  | map (es : List (Value × AV))
  | tr (cs : List Tr)
  | mpi (es : List (Value × AV)) (ents : Array MapEntry) (clock : Nat)
  | itr (mid since : Nat) (seen : Array Nat) (stepped : Nat)

/-- A place in the model's memory: block, offset, the end of what may be written. -/
structure Pl where
  b : Nat
  o : Nat
  l : Nat

/-- The ghost: which cells never change any more, and what they hold; whose a block is; where an entry lies. -/
structure Gh where
  ro : Nat → Nat → Option Value
  ow : Nat → Option Nat
  mu : Nat → Pl

inductive PR (ro : Nat → Nat → Option Value) : PV → Value → Prop
  | sc (v : Value) (h : v.oneCell' = true) : PR ro (.sc v) v
  | nil (z : Nat) : PR ro (.sl z []) (.slice none 0 0)
  | sl (z : Nat) (es : List (List PV)) (a : Addr) (cap : Nat) (f : Nat → Value) (hsp : cap = 0 ∨ a.spot = none) (hcap : es.length ≤ cap)
      (hz : ∀ e, e ∈ es → e.length = z)
      (hro : ∀ (k : Nat) (p : PV), es.flatten[k]? = some p → ro a.block (a.off + k) = some (f k))
      (hpr : ∀ (k : Nat) (p : PV), es.flatten[k]? = some p → PR ro p (f k)) :
      PR ro (.sl z es) (.slice (some a) es.length cap)

/-- Cells that never change and read as pure data. -/
def Row (ro : Nat → Nat → Option Value) (b o : Nat) (ps : List PV) (f : Nat → Value) : Prop :=
  ∀ (k : Nat) (p : PV), ps[k]? = some p → ro b (o + k) = some (f k) ∧ PR ro p (f k)

def Tk.ok (g : Gh) (n : Nat) (a : Addr) (len cap z : Nat) : Tk → Prop
  | .no => True
  | .ex => cap = len
  | .tk t => t < n ∧ (cap = len ∨ g.mu t = ⟨a.block, a.off + len * z, a.off + cap * z⟩)

inductive VR (g : Gh) (n : Nat) : AV → Value → Prop
  | any (v : Value) : VR g n .any v
  | sc (v : Value) : VR g n (.sc v) v
  | nil (z : Nat) (k : Tk) (hk : ∀ t, k = .tk t → t < n) : VR g n (.sl z [] k) (.slice none 0 0)
  | sl (z : Nat) (es : List (List PV)) (k : Tk) (a : Addr) (cap : Nat) (f : Nat → Value) (hsp : cap = 0 ∨ a.spot = none) (hcap : es.length ≤ cap)
      (hz : ∀ e, e ∈ es → e.length = z) (hrow : Row g.ro a.block a.off es.flatten f)
      (hk : k.ok g n a es.length cap z) : VR g n (.sl z es k) (.slice (some a) es.length cap)
  | ag (cs : List AV) (vs : Array Value) (hs : vs.size = cs.length) (h : ∀ (i : Nat) c, cs[i]? = some c → VR g n c (vs.getD i undef)) : VR g n (.ag cs) (.agg vs)
  | tp (cs : List AV) (vs : Array Value) (hs : vs.size = cs.length) (h : ∀ (i : Nat) c, cs[i]? = some c → VR g n c (vs.getD i undef)) : VR g n (.tp cs) (.tuple vs)
  | pt (id off : Nat) (hid : id < n) : VR g n (.pt id off) (.pointer (some ⟨(g.mu id).b, (g.mu id).o + off, none⟩))
  | ep (cs : List PV) (a : Addr) (f : Nat → Value) (hsp : a.spot = none) (hrow : Row g.ro a.block a.off cs f) :
      VR g n (.ep cs) (.pointer (some a))
  | hs (id off len mc s cap : Nat) (hid : id < n) (hl : len ≤ mc) (hmc : mc ≤ cap) (hcap : (g.mu id).o + off + cap * s ≤ (g.mu id).l) :
      VR g n (.hs id off len mc s) (.slice (some ⟨(g.mu id).b, (g.mu id).o + off, none⟩) len cap)
  | hn (id off s : Nat) (a : Option Addr) (hid : id < n) : VR g n (.hs id off 0 0 s) (.slice a 0 0)
  | mp (id : Nat) (hid : id < n) : VR g n (.mp id) (.map (some (g.mu id).b))
  | fn (f : Fn) (fs cs : List AV) (vf vc : Array Value) (hs : vf.size = fs.length) (hc : vc.size = cs.length)
      (hf : ∀ (i : Nat) c, fs[i]? = some c → VR g n c (vf.getD i undef)) (hcs : ∀ (i : Nat) c, cs[i]? = some c → VR g n c (vc.getD i undef)) : VR g n (.fn f fs cs) (.func f vf vc)

/-- The ghost goes on: what never changes stays, entries below n lie where they lay. -/
structure Gle (n : Nat) (g g' : Gh) : Prop where
  ro : ∀ b o v, g.ro b o = some v → g'.ro b o = some v
  mu : ∀ id, id < n → g'.mu id = g.mu id

theorem Gle.refl (n : Nat) (g : Gh) : Gle n g g := ⟨fun _ _ _ h => h, fun _ _ => rfl⟩
theorem Gle.trans {n n' : Nat} {g g' g'' : Gh} (h : Gle n g g') (h' : Gle n' g' g'') (hn : n ≤ n') : Gle n g g'' :=
  ⟨fun b o v e => h'.ro b o v (h.ro b o v e), fun id hid => (h'.mu id (by omega)).trans (h.mu id hid)⟩

theorem PR.mono {ro ro' : Nat → Nat → Option Value} (h : ∀ b o v, ro b o = some v → ro' b o = some v) {p : PV} {v : Value} (hp : PR ro p v) : PR ro' p v := by
  induction hp with
  | sc v h => exact .sc v h
  | nil z => exact .nil z
  | sl z es a cap f hsp hcap hz hro _ ih => exact .sl z es a cap f hsp hcap hz (fun k p hk => h _ _ _ (hro k p hk)) ih

theorem Row.mono {ro ro' : Nat → Nat → Option Value} (h : ∀ b o v, ro b o = some v → ro' b o = some v) {b o : Nat} {ps : List PV} {f : Nat → Value} (hr : Row ro b o ps f) : Row ro' b o ps f :=
  fun k p hk => ⟨h _ _ _ (hr k p hk).1, (hr k p hk).2.mono h⟩

theorem Tk.ok_mono {g g' : Gh} {n n' : Nat} (h : Gle n g g') (hn : n ≤ n') {a : Addr} {len cap z : Nat} {k : Tk} (hk : k.ok g n a len cap z) : k.ok g' n' a len cap z := by
  cases k with
  | no => trivial
  | ex => exact hk
  | tk t => exact ⟨by have := hk.1; omega, hk.2.imp id fun e => (h.mu t hk.1).trans e⟩

theorem VR.mono {g g' : Gh} {n n' : Nat} (h : Gle n g g') (hn : n ≤ n') {a : AV} {v : Value} (hv : VR g n a v) : VR g' n' a v := by
  induction hv with
  | any v => exact .any v
  | sc v => exact .sc v
  | nil z k hk => exact .nil z k fun t e => Nat.lt_of_lt_of_le (hk t e) hn
  | sl z es k a cap f hsp hcap hz hrow hk => exact .sl z es k a cap f hsp hcap hz (hrow.mono h.ro) (Tk.ok_mono h hn hk)
  | ag cs vs hs _ ih => exact .ag cs vs hs ih
  | tp cs vs hs _ ih => exact .tp cs vs hs ih
  | pt id off hid => rw [← h.mu id hid]; exact .pt id off (by omega)
  | ep cs a f hsp hrow => exact .ep cs a f hsp (hrow.mono h.ro)
  | hs id off len mc s cap hid hl hmc hcap => rw [← h.mu id hid] at hcap ⊢; exact .hs id off len mc s cap (by omega) hl hmc hcap
  | hn id off s a hid => exact .hn id off s a (by omega)
  | mp id hid => rw [← h.mu id hid]; exact .mp id (by omega)
  | fn f fs cs vf vc h1 h2 _ _ i1 i2 => exact .fn f fs cs vf vc h1 h2 i1 i2

/-- Block b is a row of cells, of which none below l is frozen. -/
def Blk (w : World) (b l : Nat) : Prop := ∃ c e fr, w.heap[b]? = some (.cells c e fr) ∧ l ≤ c.size ∧ ∀ o, o < l → (decide (fr.1 ≤ o) && decide (o < fr.2)) = false

/-- A map's entries, in whatever order. -/
structure MapR (g : Gh) (n : Nat) (es : List (Value × AV)) (ents : Array MapEntry) (clock : Nat) : Prop where
  st : MapKept.Stamped ents clock
  size : ents.size = es.length
  keys : es.Pairwise fun x y => x.1 ≠ y.1
  get : ∀ k a, (k, a) ∈ es → ∃ x, x ∈ ents.toList ∧ x.key = k ∧ VR g n a x.val
  all : ∀ x, x ∈ ents.toList → ∃ a, (x.key, a) ∈ es

/-- A tree lies in memory: ow says which block is which node's (its path from the root). -/
inductive TrR (g : Gh) (n : Nat) (w : World) (ow : Nat → Option (List Nat)) : List Nat → Tr → Value → Prop
  | av (p : List Nat) (a : AV) (v : Value) (h : VR g n a v) : TrR g n w ow p (.av a) v
  | hs (p : List Nat) (z len : Nat) (cs : List Tr) (b o l cap : Nat) (f : Nat → Value) (ho : ow b = some p) (hb : Blk w b l) (hc : o + cap * z ≤ l) (hlen : cs.length = len * z) (hl : len ≤ cap)
      (hro : ∀ o', g.ro b o' = none) (hv : ∀ (k : Nat) c, cs[k]? = some c → w.cell? ⟨b, o + k, none⟩ = some (f k)) (hr : ∀ (k : Nat) c, cs[k]? = some c → TrR g n w ow (p ++ [k]) c (f k)) :
      TrR g n w ow p (.hs z len cs) (.slice (some ⟨b, o, none⟩) len cap)
  | hn (p : List Nat) (z : Nat) (a : Option Addr) : TrR g n w ow p (.hs z 0 []) (.slice a 0 0)
  | sr (p : List Nat) (z : Nat) (es : List (List PV)) (a : Addr) (len cap : Nat) (hlen : len = es.length) (h : VR g n (.sl z es .no) (.slice (some a) len cap))
      (hk : cap = len ∨ ow a.block = some p ∧ Blk w a.block (a.off + cap * z) ∧ ∀ o v, g.ro a.block o = some v → o < a.off + len * z) : TrR g n w ow p (.sr z es) (.slice (some a) len cap)
  | srn (p : List Nat) (z : Nat) : TrR g n w ow p (.sr z []) (.slice none 0 0)
  | pt (p : List Nat) (cs : List Tr) (b o l : Nat) (f : Nat → Value) (ho : ow b = some p) (hb : Blk w b l) (hl : o + cs.length ≤ l) (hro : ∀ o', g.ro b o' = none)
      (hv : ∀ (k : Nat) c, cs[k]? = some c → w.cell? ⟨b, o + k, none⟩ = some (f k)) (hr : ∀ (k : Nat) c, cs[k]? = some c → TrR g n w ow (p ++ [k]) c (f k)) :
      TrR g n w ow p (.pt cs) (.pointer (some ⟨b, o, none⟩))
  | mp (p : List Nat) (es : List (Value × AV)) (b : Nat) (ents : Array MapEntry) (clock : Nat) (ho : ow b = some p) (hro : ∀ o, g.ro b o = none) (hb : w.heap[b]? = some (.map ents clock)) (hm : MapR g n es ents clock) :
      TrR g n w ow p (.mp es) (.map (some b))

def EntR (g : Gh) (n : Nat) (w : World) (id : Nat) : Ent → Prop
  | .dead => True
  | .tok => (g.mu id).l < (g.mu id).o ∨ g.ow (g.mu id).b = some id ∧ Blk w (g.mu id).b (g.mu id).l ∧ ∀ o v, g.ro (g.mu id).b o = some v → o < (g.mu id).o
  | .cells cs => (cs = [] ∧ (g.mu id).l < (g.mu id).o) ∨ g.ow (g.mu id).b = some id ∧ Blk w (g.mu id).b (g.mu id).l ∧ (g.mu id).o + cs.length ≤ (g.mu id).l ∧ (∀ o, g.ro (g.mu id).b o = none) ∧
      ∀ (k : Nat) c, cs[k]? = some c → ∃ v, w.cell? ⟨(g.mu id).b, (g.mu id).o + k, none⟩ = some v ∧ VR g n c v
  | .map es => g.ow (g.mu id).b = some id ∧ (∀ o, g.ro (g.mu id).b o = none) ∧ ∃ ents clock, w.heap[(g.mu id).b]? = some (.map ents clock) ∧ MapR g n es ents clock
  | .mpi es ents clock => g.ow (g.mu id).b = some id ∧ (∀ o, g.ro (g.mu id).b o = none) ∧ w.heap[(g.mu id).b]? = some (.map ents clock) ∧ MapR g n es ents clock
  | .itr mid since seen stepped => mid < n ∧ g.ow (g.mu id).b = some id ∧ (∀ o, g.ro (g.mu id).b o = none) ∧ (g.mu id).o = 0 ∧ w.heap[(g.mu id).b]? = some (.mapIter (some (g.mu mid).b) since seen stepped)
  | .tr cs => (cs = [] ∧ (g.mu id).l < (g.mu id).o) ∨ ∃ ow : Nat → Option (List Nat), (∀ b p, ow b = some p → g.ow b = some id) ∧ ow (g.mu id).b = some [] ∧ Blk w (g.mu id).b (g.mu id).l ∧
      (g.mu id).o + cs.length ≤ (g.mu id).l ∧ (∀ o, g.ro (g.mu id).b o = none) ∧ ∀ (k : Nat) c, cs[k]? = some c → ∃ v, w.cell? ⟨(g.mu id).b, (g.mu id).o + k, none⟩ = some v ∧ TrR g n w ow [k] c v

theorem ne_nil_of_get {α : Type} {l : List α} {k : Nat} {a : α} (h : l[k]? = some a) : l ≠ [] := fun e => by rw [e] at h; simp at h
abbrev Mem := List Ent

structure MR (g : Gh) (H : Mem) (w : World) : Prop where
  ro : ∀ b o v, g.ro b o = some v → w.cell? ⟨b, o, none⟩ = some v
  ent : ∀ (id : Nat) e, H[id]? = some e → EntR g H.length w id e
  ow : ∀ b id, g.ow b = some id → b < w.heap.size ∧ id < H.length

/-- From (g, w) to (g', w'): what never changes stays; entries below n stay where they are; a block that was nobody's is as it was. -/
structure Ev (n : Nat) (g : Gh) (w : World) (g' : Gh) (w' : World) : Prop where
  gle : Gle n g g'
  un : ∀ b, b < w.heap.size → g.ow b = none → g'.ow b = none ∧ w'.heap[b]? = w.heap[b]?
  size : w.heap.size ≤ w'.heap.size
  os : w'.os = w.os
  tape : w'.tape = w.tape
  output : w'.output = w.output

theorem Ev.refl (n : Nat) (g : Gh) (w : World) : Ev n g w g w := ⟨.refl n g, fun _ _ h => ⟨h, rfl⟩, Nat.le_refl _, rfl, rfl, rfl⟩
theorem Ev.trans {n n' : Nat} {g g1 g2 : Gh} {w w1 w2 : World} (h : Ev n g w g1 w1) (h' : Ev n' g1 w1 g2 w2) (hn : n ≤ n') : Ev n g w g2 w2 :=
  ⟨h.gle.trans h'.gle hn, fun b hb ho => by
    obtain ⟨a1, a2⟩ := h.un b hb ho
    obtain ⟨b1, b2⟩ := h'.un b (Nat.lt_of_lt_of_le hb h.size) a1
    exact ⟨b1, b2.trans a2⟩, Nat.le_trans h.size h'.size, h'.os.trans h.os, h'.tape.trans h.tape, h'.output.trans h.output⟩

abbrev Frm := Nat → AV
def Frm.set (fr : Frm) (d : Nat) (v : AV) : Frm := fun t => if t = d then v else fr t
def Frm.put (fr : Frm) (d : Option Nat) (v : AV) : Frm := match d with | some d => fr.set d v | none => fr

structure FR (g : Gh) (n N : Nat) (fr : Frm) (tmps : Array Value) : Prop where
  size : tmps.size = N
  vr : ∀ t, VR g n (fr t) (tmps.getD t undef)

theorem FR.mono {g g' : Gh} {n n' N : Nat} (h : Gle n g g') (hn : n ≤ n') {fr : Frm} {tmps : Array Value} (hf : FR g n N fr tmps) : FR g' n' N fr tmps :=
  ⟨hf.size, fun t => (hf.vr t).mono h hn⟩

theorem FR.set {g : Gh} {n N : Nat} {fr : Frm} {tmps : Array Value} (hf : FR g n N fr tmps) {d : Nat} (hd : d < N) {a : AV} {v : Value} (hv : VR g n a v) :
    FR g n N (fr.set d a) (tmps.setIfInBounds d v) := by
  refine ⟨by simpa using hf.size, fun t => ?_⟩
  have hs := hf.size
  unfold Frm.set
  by_cases e : t = d
  · subst e; rw [if_pos rfl]
    rw [Array.getD_eq_getD_getElem?, Array.getElem?_setIfInBounds_self_of_lt (by omega)]; exact hv
  · rw [if_neg e]
    rw [Array.getD_eq_getD_getElem?, Array.getElem?_setIfInBounds_ne (Ne.symm e), ← Array.getD_eq_getD_getElem?]; exact hf.vr t

theorem FR.put {g : Gh} {n N : Nat} {fr : Frm} {a : Act} (hf : FR g n N fr a.tmps) {d : Option Nat} (hd : ∀ x, d = some x → x < N) {x : AV} {v : Value} (hv : VR g n x v) :
    FR g n N (fr.put d x) (a.put d v).tmps := by
  cases d with
  | none => exact hf
  | some d => exact hf.set (hd d rfl) hv

theorem FR.weaken {g : Gh} {n N : Nat} {fr fr' : Frm} {tmps : Array Value} (hf : FR g n N fr tmps) (h : ∀ t, fr' t = fr t ∨ fr' t = .any) : FR g n N fr' tmps :=
  ⟨hf.size, fun t => by rcases h t with e | e <;> rw [e]; exact hf.vr t; exact .any _⟩

theorem VR.of_PR {g : Gh} {n : Nat} {p : PV} {v : Value} (h : PR g.ro p v) : VR g n p.av v := by
  cases h with
  | sc v h => exact .sc v
  | nil z => exact .nil z .no fun t e => by cases e
  | sl z es a cap f hsp hcap hz hro hpr => exact .sl z es .no a cap f hsp hcap hz (fun k p hk => ⟨hro k p hk, hpr k p hk⟩) trivial

theorem VR.no_tok {g : Gh} {n z : Nat} {es : List (List PV)} {k : Tk} {v : Value} (h : VR g n (.sl z es k) v) : VR g n (.sl z es .no) v := by
  cases h with
  | nil z => exact .nil z .no fun t e => by cases e
  | sl z es k a cap f hsp hcap hz hrow hk => exact .sl z es .no a cap f hsp hcap hz hrow trivial

theorem PR.of_VR {g : Gh} {n z : Nat} {es : List (List PV)} {k : Tk} {v : Value} (h : VR g n (.sl z es k) v) : PR g.ro (.sl z es) v := by
  cases h with
  | nil z => exact .nil z
  | sl z es k a cap f hsp hcap hz hrow hk => exact .sl z es a cap f hsp hcap hz (fun k p hk => (hrow k p hk).1) (fun k p hk => (hrow k p hk).2)

end Go.Proofs.Yteclchefihcjkaa.Am
