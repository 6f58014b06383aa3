/- Part 0 of the proof: values, memory, walks or the plain law. -/
import Derived.Calls
import Derived.Orders
import Derived.Tactics
import Derived.Scope
import Derived.Laws.Entries
import Derived.MapKept
import Derived.WalkKit
import Derived.Lib.ConvBytes
namespace Go.Proofs.YtaaamoicidfgcaaGreat.Am
open Go
inductive PV where
 | sc (v : Value)
 | sl (z : Nat) (es : List (List PV))
inductive Tk where
 | no
 | ex
 | tk (t : Nat)
inductive AV where
 | any
 | sc (v : Value)
 | sl (z : Nat) (es : List (List PV)) (k : Tk)
 | ag (cs : List AV)
 | tp (vs : List AV)
 | pt (id off : Nat)
 | ep (cs : List PV)
 | hs (id off len mc s : Nat)
 | mp (id : Nat)
 | fn (f : Fn) (first caps : List AV)
def PV.av : PV → AV
 | .sc v => .sc v
 | .sl z es => .sl z es .no
inductive Tr where
 | av (a : AV)
 | hs (z len : Nat) (cs : List Tr)
 | sr (z : Nat) (es : List (List PV))
 | pt (cs : List Tr)
 | mp (es : List (Value × AV))
inductive Ent where
 | dead
 | tok
 | cells (cs : List AV)
 | map (es : List (Value × AV))
 | tr (cs : List Tr)
 | mpi (es : List (Value × AV)) (ents : Array MapEntry) (clock : Nat)
 | itr (mid since : Nat) (seen : Array Nat) (stepped : Nat)
 | lit (vs : List Value)
structure Pl where
 b : Nat
 o : Nat
 l : Nat
structure Gh where
 ro : Nat → Nat → Option Value
 ow : Nat → Option Nat
 mu : Nat → Pl
inductive PR (ro : Nat → Nat → Option Value) : PV → Value → Prop
 | sc (v : Value) (h : v.oneCell' = true) : PR ro (.sc v) v
 | nil (z : Nat) : PR ro (.sl z []) (.slice none 0 0)
 | sl (z : Nat) (es : List (List PV)) (a : Addr) (cap : Nat) (f : Nat → Value) (hsp : cap = 0 ∨ a.spot = none) (hcap : es.length ≤ cap)
   (hz : ∀ e, e ∈ es → e.length = z)
   (hro : ∀ (k : Nat) (p : PV), es.flatten[k]? = some p → ro a.block (a.off + k) = some (f k))
   (hpr : ∀ (k : Nat) (p : PV), es.flatten[k]? = some p → PR ro p (f k)) :
   PR ro (.sl z es) (.slice (some a) es.length cap)
def Row (ro : Nat → Nat → Option Value) (b o : Nat) (ps : List PV) (f : Nat → Value) : Prop :=
 ∀ (k : Nat) (p : PV), ps[k]? = some p → ro b (o + k) = some (f k) ∧ PR ro p (f k)
def Tk.ok (g : Gh) (n : Nat) (a : Addr) (len cap z : Nat) : Tk → Prop
 | .no => True
 | .ex => cap = len
 | .tk t => t < n ∧ (cap = len ∨ g.mu t = ⟨a.block, a.off + len * z, a.off + cap * z⟩)
inductive VR (g : Gh) (n : Nat) : AV → Value → Prop
 | any (v : Value) : VR g n .any v
 | sc (v : Value) : VR g n (.sc v) v
 | nil (z : Nat) (k : Tk) (hk : ∀ t, k = .tk t → t < n) : VR g n (.sl z [] k) (.slice none 0 0)
 | sl (z : Nat) (es : List (List PV)) (k : Tk) (a : Addr) (cap : Nat) (f : Nat → Value) (hsp : cap = 0 ∨ a.spot = none) (hcap : es.length ≤ cap)
   (hz : ∀ e, e ∈ es → e.length = z) (hrow : Row g.ro a.block a.off es.flatten f)
   (hk : k.ok g n a es.length cap z) : VR g n (.sl z es k) (.slice (some a) es.length cap)
 | ag (cs : List AV) (vs : Array Value) (hs : vs.size = cs.length) (h : ∀ (i : Nat) c, cs[i]? = some c → VR g n c (vs.getD i undef)) : VR g n (.ag cs) (.agg vs)
 | tp (cs : List AV) (vs : Array Value) (hs : vs.size = cs.length) (h : ∀ (i : Nat) c, cs[i]? = some c → VR g n c (vs.getD i undef)) : VR g n (.tp cs) (.tuple vs)
 | pt (id off : Nat) (hid : id < n) : VR g n (.pt id off) (.pointer (some ⟨(g.mu id).b, (g.mu id).o + off, none⟩))
 | ep (cs : List PV) (a : Addr) (f : Nat → Value) (hsp : a.spot = none) (hrow : Row g.ro a.block a.off cs f) :
   VR g n (.ep cs) (.pointer (some a))
 | hs (id off len mc s cap : Nat) (hid : id < n) (hl : len ≤ mc) (hmc : mc ≤ cap) (hcap : (g.mu id).o + off + cap * s ≤ (g.mu id).l) :
   VR g n (.hs id off len mc s) (.slice (some ⟨(g.mu id).b, (g.mu id).o + off, none⟩) len cap)
 | hn (id off s : Nat) (a : Option Addr) (hid : id < n) : VR g n (.hs id off 0 0 s) (.slice a 0 0)
 | mp (id : Nat) (hid : id < n) : VR g n (.mp id) (.map (some (g.mu id).b))
 | fn (f : Fn) (fs cs : List AV) (vf vc : Array Value) (hs : vf.size = fs.length) (hc : vc.size = cs.length)
   (hf : ∀ (i : Nat) c, fs[i]? = some c → VR g n c (vf.getD i undef)) (hcs : ∀ (i : Nat) c, cs[i]? = some c → VR g n c (vc.getD i undef)) : VR g n (.fn f fs cs) (.func f vf vc)
structure Gle (n : Nat) (g g' : Gh) : Prop where
 ro : ∀ b o v, g.ro b o = some v → g'.ro b o = some v
 mu : ∀ id, id < n → g'.mu id = g.mu id
theorem Gle.refl (n : Nat) (g : Gh) : Gle n g g := ⟨fun _ _ _ h => h, fun _ _ => rfl⟩
theorem Gle.trans {n n' : Nat} {g g' g'' : Gh} (h : Gle n g g') (h' : Gle n' g' g'') (hn : n ≤ n') : Gle n g g'' :=
 ⟨fun b o v e => h'.ro b o v (h.ro b o v e), fun id hid => (h'.mu id (by omega)).trans (h.mu id hid)⟩
theorem PR.mono {ro ro' : Nat → Nat → Option Value} (h : ∀ b o v, ro b o = some v → ro' b o = some v) {p : PV} {v : Value} (hp : PR ro p v) : PR ro' p v := by
 induction hp with
 | sc v h => exact .sc v h
 | nil z => exact .nil z
 | sl z es a cap f hsp hcap hz hro _ ih => exact .sl z es a cap f hsp hcap hz (fun k p hk => h _ _ _ (hro k p hk)) ih
theorem Row.mono {ro ro' : Nat → Nat → Option Value} (h : ∀ b o v, ro b o = some v → ro' b o = some v) {b o : Nat} {ps : List PV} {f : Nat → Value} (hr : Row ro b o ps f) : Row ro' b o ps f :=
 fun k p hk => ⟨h _ _ _ (hr k p hk).1, (hr k p hk).2.mono h⟩
theorem Tk.ok_mono {g g' : Gh} {n n' : Nat} (h : Gle n g g') (hn : n ≤ n') {a : Addr} {len cap z : Nat} {k : Tk} (hk : k.ok g n a len cap z) : k.ok g' n' a len cap z := by
 cases k with
 | no => trivial
 | ex => exact hk
 | tk t => exact ⟨by have := hk.1; omega, hk.2.imp id fun e => (h.mu t hk.1).trans e⟩
theorem VR.mono {g g' : Gh} {n n' : Nat} (h : Gle n g g') (hn : n ≤ n') {a : AV} {v : Value} (hv : VR g n a v) : VR g' n' a v := by
 induction hv with
 | any v => exact .any v
 | sc v => exact .sc v
 | nil z k hk => exact .nil z k fun t e => Nat.lt_of_lt_of_le (hk t e) hn
 | sl z es k a cap f hsp hcap hz hrow hk => exact .sl z es k a cap f hsp hcap hz (hrow.mono h.ro) (Tk.ok_mono h hn hk)
 | ag cs vs hs _ ih => exact .ag cs vs hs ih
 | tp cs vs hs _ ih => exact .tp cs vs hs ih
 | pt id off hid => rw [← h.mu id hid]; exact .pt id off (by omega)
 | ep cs a f hsp hrow => exact .ep cs a f hsp (hrow.mono h.ro)
 | hs id off len mc s cap hid hl hmc hcap => rw [← h.mu id hid] at hcap ⊢; exact .hs id off len mc s cap (by omega) hl hmc hcap
 | hn id off s a hid => exact .hn id off s a (by omega)
 | mp id hid => rw [← h.mu id hid]; exact .mp id (by omega)
 | fn f fs cs vf vc h1 h2 _ _ i1 i2 => exact .fn f fs cs vf vc h1 h2 i1 i2
def Blk (w : World) (b l : Nat) : Prop := ∃ c e fr, w.heap[b]? = some (.cells c e fr) ∧ l ≤ c.size ∧ ∀ o, o < l → (decide (fr.1 ≤ o) && decide (o < fr.2)) = false
structure MapR (g : Gh) (n : Nat) (es : List (Value × AV)) (ents : Array MapEntry) (clock : Nat) : Prop where
 st : MapKept.Stamped ents clock
 size : ents.size = es.length
 keys : es.Pairwise fun x y => x.1 ≠ y.1
 get : ∀ k a, (k, a) ∈ es → ∃ x, x ∈ ents.toList ∧ x.key = k ∧ VR g n a x.val
 all : ∀ x, x ∈ ents.toList → ∃ a, (x.key, a) ∈ es
inductive TrR (g : Gh) (n : Nat) (w : World) (ow : Nat → Option (List Nat)) : List Nat → Tr → Value → Prop
 | av (p : List Nat) (a : AV) (v : Value) (h : VR g n a v) : TrR g n w ow p (.av a) v
 | hs (p : List Nat) (z len : Nat) (cs : List Tr) (b o l cap : Nat) (f : Nat → Value) (ho : ow b = some p) (hb : Blk w b l) (hc : o + cap * z ≤ l) (hlen : cs.length = len * z) (hl : len ≤ cap)
   (hro : ∀ o', g.ro b o' = none) (hv : ∀ (k : Nat) c, cs[k]? = some c → w.cell? ⟨b, o + k, none⟩ = some (f k)) (hr : ∀ (k : Nat) c, cs[k]? = some c → TrR g n w ow (p ++ [k]) c (f k)) :
   TrR g n w ow p (.hs z len cs) (.slice (some ⟨b, o, none⟩) len cap)
 | hn (p : List Nat) (z : Nat) (a : Option Addr) : TrR g n w ow p (.hs z 0 []) (.slice a 0 0)
 | sr (p : List Nat) (z : Nat) (es : List (List PV)) (a : Addr) (len cap : Nat) (hlen : len = es.length) (h : VR g n (.sl z es .no) (.slice (some a) len cap))
   (hk : cap = len ∨ ow a.block = some p ∧ Blk w a.block (a.off + cap * z) ∧ ∀ o v, g.ro a.block o = some v → o < a.off + len * z) : TrR g n w ow p (.sr z es) (.slice (some a) len cap)
 | srn (p : List Nat) (z : Nat) : TrR g n w ow p (.sr z []) (.slice none 0 0)
 | pt (p : List Nat) (cs : List Tr) (b o l : Nat) (f : Nat → Value) (ho : ow b = some p) (hb : Blk w b l) (hl : o + cs.length ≤ l) (hro : ∀ o', g.ro b o' = none)
   (hv : ∀ (k : Nat) c, cs[k]? = some c → w.cell? ⟨b, o + k, none⟩ = some (f k)) (hr : ∀ (k : Nat) c, cs[k]? = some c → TrR g n w ow (p ++ [k]) c (f k)) :
   TrR g n w ow p (.pt cs) (.pointer (some ⟨b, o, none⟩))
 | mp (p : List Nat) (es : List (Value × AV)) (b : Nat) (ents : Array MapEntry) (clock : Nat) (ho : ow b = some p) (hro : ∀ o, g.ro b o = none) (hb : w.heap[b]? = some (.map ents clock)) (hm : MapR g n es ents clock) :
   TrR g n w ow p (.mp es) (.map (some b))
def EntR (g : Gh) (n : Nat) (w : World) (id : Nat) : Ent → Prop
 | .dead => True
 | .tok => (g.mu id).l < (g.mu id).o ∨ g.ow (g.mu id).b = some id ∧ Blk w (g.mu id).b (g.mu id).l ∧ ∀ o v, g.ro (g.mu id).b o = some v → o < (g.mu id).o
 | .cells cs => (cs = [] ∧ (g.mu id).l < (g.mu id).o) ∨ g.ow (g.mu id).b = some id ∧ Blk w (g.mu id).b (g.mu id).l ∧ (g.mu id).o + cs.length ≤ (g.mu id).l ∧ (∀ o, g.ro (g.mu id).b o = none) ∧
   ∀ (k : Nat) c, cs[k]? = some c → ∃ v, w.cell? ⟨(g.mu id).b, (g.mu id).o + k, none⟩ = some v ∧ VR g n c v
 | .map es => g.ow (g.mu id).b = some id ∧ (∀ o, g.ro (g.mu id).b o = none) ∧ ∃ ents clock, w.heap[(g.mu id).b]? = some (.map ents clock) ∧ MapR g n es ents clock
 | .mpi es ents clock => g.ow (g.mu id).b = some id ∧ (∀ o, g.ro (g.mu id).b o = none) ∧ w.heap[(g.mu id).b]? = some (.map ents clock) ∧ MapR g n es ents clock
 | .itr mid since seen stepped => mid < n ∧ g.ow (g.mu id).b = some id ∧ (∀ o, g.ro (g.mu id).b o = none) ∧ (g.mu id).o = 0 ∧ w.heap[(g.mu id).b]? = some (.mapIter (some (g.mu mid).b) since seen stepped)
 | .lit vs => g.ow (g.mu id).b = some id ∧ Blk w (g.mu id).b (g.mu id).l ∧ (g.mu id).o + vs.length = (g.mu id).l ∧ (∀ o, g.ro (g.mu id).b o = none) ∧
   ∀ (k : Nat) v, vs[k]? = some v → w.cell? ⟨(g.mu id).b, (g.mu id).o + k, none⟩ = some v
 | .tr cs => (cs = [] ∧ (g.mu id).l < (g.mu id).o) ∨ ∃ ow : Nat → Option (List Nat), (∀ b p, ow b = some p → g.ow b = some id) ∧ ow (g.mu id).b = some [] ∧ Blk w (g.mu id).b (g.mu id).l ∧
   (g.mu id).o + cs.length ≤ (g.mu id).l ∧ (∀ o, g.ro (g.mu id).b o = none) ∧ ∀ (k : Nat) c, cs[k]? = some c → ∃ v, w.cell? ⟨(g.mu id).b, (g.mu id).o + k, none⟩ = some v ∧ TrR g n w ow [k] c v
theorem ne_nil_of_get {α : Type} {l : List α} {k : Nat} {a : α} (h : l[k]? = some a) : l ≠ [] := fun e => by rw [e] at h; simp at h
abbrev Mem := List Ent
structure MR (g : Gh) (H : Mem) (w : World) : Prop where
 ro : ∀ b o v, g.ro b o = some v → w.cell? ⟨b, o, none⟩ = some v
 ent : ∀ (id : Nat) e, H[id]? = some e → EntR g H.length w id e
 ow : ∀ b id, g.ow b = some id → b < w.heap.size ∧ id < H.length
structure Ev (n : Nat) (g : Gh) (w : World) (g' : Gh) (w' : World) : Prop where
 gle : Gle n g g'
 un : ∀ b, b < w.heap.size → g.ow b = none → g'.ow b = none ∧ w'.heap[b]? = w.heap[b]?
 size : w.heap.size ≤ w'.heap.size
 os : w'.os = w.os
 tape : w'.tape = w.tape
 output : w'.output = w.output
theorem Ev.refl (n : Nat) (g : Gh) (w : World) : Ev n g w g w := ⟨.refl n g, fun _ _ h => ⟨h, rfl⟩, Nat.le_refl _, rfl, rfl, rfl⟩
theorem Ev.trans {n n' : Nat} {g g1 g2 : Gh} {w w1 w2 : World} (h : Ev n g w g1 w1) (h' : Ev n' g1 w1 g2 w2) (hn : n ≤ n') : Ev n g w g2 w2 :=
 ⟨h.gle.trans h'.gle hn, fun b hb ho => by
  obtain ⟨a1, a2⟩ := h.un b hb ho
  obtain ⟨b1, b2⟩ := h'.un b (Nat.lt_of_lt_of_le hb h.size) a1
  exact ⟨b1, b2.trans a2⟩, Nat.le_trans h.size h'.size, h'.os.trans h.os, h'.tape.trans h.tape, h'.output.trans h.output⟩
abbrev Frm := Nat → AV
def Frm.set (fr : Frm) (d : Nat) (v : AV) : Frm := fun t => if t = d then v else fr t
def Frm.put (fr : Frm) (d : Option Nat) (v : AV) : Frm := match d with | some d => fr.set d v | none => fr
structure FR (g : Gh) (n N : Nat) (fr : Frm) (tmps : Array Value) : Prop where
 size : tmps.size = N
 vr : ∀ t, VR g n (fr t) (tmps.getD t undef)
theorem FR.mono {g g' : Gh} {n n' N : Nat} (h : Gle n g g') (hn : n ≤ n') {fr : Frm} {tmps : Array Value} (hf : FR g n N fr tmps) : FR g' n' N fr tmps :=
 ⟨hf.size, fun t => (hf.vr t).mono h hn⟩
theorem FR.set {g : Gh} {n N : Nat} {fr : Frm} {tmps : Array Value} (hf : FR g n N fr tmps) {d : Nat} (hd : d < N) {a : AV} {v : Value} (hv : VR g n a v) :
  FR g n N (fr.set d a) (tmps.setIfInBounds d v) := by
 refine ⟨by simpa using hf.size, fun t => ?_⟩
 have hs := hf.size
 unfold Frm.set
 by_cases e : t = d
 ·subst e; rw [if_pos rfl]
  rw [Array.getD_eq_getD_getElem?, Array.getElem?_setIfInBounds_self_of_lt (by omega)]; exact hv
 ·rw [if_neg e]
  rw [Array.getD_eq_getD_getElem?, Array.getElem?_setIfInBounds_ne (Ne.symm e), ← Array.getD_eq_getD_getElem?]; exact hf.vr t
theorem FR.put {g : Gh} {n N : Nat} {fr : Frm} {a : Act} (hf : FR g n N fr a.tmps) {d : Option Nat} (hd : ∀ x, d = some x → x < N) {x : AV} {v : Value} (hv : VR g n x v) :
  FR g n N (fr.put d x) (a.put d v).tmps := by
 cases d with
 | none => exact hf
 | some d => exact hf.set (hd d rfl) hv
theorem FR.weaken {g : Gh} {n N : Nat} {fr fr' : Frm} {tmps : Array Value} (hf : FR g n N fr tmps) (h : ∀ t, fr' t = fr t ∨ fr' t = .any) : FR g n N fr' tmps :=
 ⟨hf.size, fun t => by rcases h t with e | e <;> rw [e]; exact hf.vr t; exact .any _⟩
theorem VR.of_PR {g : Gh} {n : Nat} {p : PV} {v : Value} (h : PR g.ro p v) : VR g n p.av v := by
 cases h with
 | sc v h => exact .sc v
 | nil z => exact .nil z .no fun t e => by cases e
 | sl z es a cap f hsp hcap hz hro hpr => exact .sl z es .no a cap f hsp hcap hz (fun k p hk => ⟨hro k p hk, hpr k p hk⟩) trivial
theorem VR.no_tok {g : Gh} {n z : Nat} {es : List (List PV)} {k : Tk} {v : Value} (h : VR g n (.sl z es k) v) : VR g n (.sl z es .no) v := by
 cases h with
 | nil z => exact .nil z .no fun t e => by cases e
 | sl z es k a cap f hsp hcap hz hrow hk => exact .sl z es .no a cap f hsp hcap hz hrow trivial
theorem PR.of_VR {g : Gh} {n z : Nat} {es : List (List PV)} {k : Tk} {v : Value} (h : VR g n (.sl z es k) v) : PR g.ro (.sl z es) v := by
 cases h with
 | nil z => exact .nil z
 | sl z es k a cap f hsp hcap hz hrow hk => exact .sl z es a cap f hsp hcap hz (fun k p hk => (hrow k p hk).1) (fun k p hk => (hrow k p hk).2)
end Go.Proofs.YtaaamoicidfgcaaGreat.Am
namespace Go.Proofs.YtaaamoicidfgcaaGreat.Am
open Go
def aev (fr : Frm) : Operand → AV
 | .tmp t => fr t
 | .const v => .sc v
 | .global _ => .any
 | .func f => .fn (.func f) [] []
theorem VR_aev {g : Gh} {n N : Nat} {fr : Frm} {a : Act} (h : FR g n N fr a.tmps) (x : Operand) : VR g n (aev fr x) (a.eval x) := by
 cases x with
 | tmp t => exact h.vr t
 | const v => exact .sc v
 | global g => exact .any _
 | func f => exact .fn _ [] [] #[] #[] rfl rfl (fun i c h => by simp at h) (fun i c h => by simp at h)
def Ls (P : Program) (K : Value → World → Prop) : Result Next → Prop
 | .ok (.value v) w => K v w
 | .ok .skip w => K undef w
 | .ok (.enter f args) w => Calls P f args w (fun e w' => ∃ v, e = .returned v ∧ K v w')
 | _ => False
theorem Ls.mono {P : Program} {K K' : Value → World → Prop} (hk : ∀ v w, K v w → K' v w) {r : Result Next} (h : Ls P K r) : Ls P K' r := by
 cases r with
 | ok x w =>
  cases x <;> simp only [Ls] at h ⊢
  case value v => exact hk _ _ h
  case skip => exact hk _ _ h
  case enter f args => exact h.mono fun e w' ⟨v, he, hv⟩ => ⟨v, he, hk _ _ hv⟩
 | halt x w => exact h
theorem wp_of_Ls {P : Program} {o : Oper} {a : Act} {w : World} {next : Act → World → Prop} {Q : Exit → Act → World → Prop} {K : Value → World → Prop}
  (h : Ls P K ((execOp a.eval o).run P w)) (hk : ∀ v w', K v w' → next (a.put o.dst v) w') : o.wp P a w next Q := by
 unfold Oper.wp
 generalize (execOp a.eval o).run P w = r at *
 cases r with
 | ok x w =>
  cases x <;> simp only [Ls] at h <;> simp only [Oper.upon]
  case value v => exact hk _ _ h
  case skip => exact hk _ _ h
  case enter f args => exact h.mono fun e w' ⟨v, he, hv⟩ => by subst he; exact hk _ _ hv
 | halt x w => exact h.elim
def SR (n : Nat) (g : Gh) (w : World) (K : AV → Mem → Prop) (v : Value) (w' : World) : Prop :=
 ∃ r H' g', K r H' ∧ VR g' H'.length r v ∧ MR g' H' w' ∧ Ev n g w g' w' ∧ n ≤ H'.length
theorem SR.mono {n : Nat} {g : Gh} {w : World} {K K' : AV → Mem → Prop} (h : ∀ r H, K r H → K' r H) {v : Value} {w' : World} (s : SR n g w K v w') : SR n g w K' v w' :=
 let ⟨r, H', g', k, rest⟩ := s; ⟨r, H', g', h _ _ k, rest⟩
def OpS (P : Program) (o : Oper) (fr : Frm) (H : Mem) (K : AV → Mem → Prop) : Prop :=
 ∀ (g : Gh) (w : World) (ev : Operand → Value), (∀ x ∈ o.op.operands, VR g H.length (aev fr x) (ev x)) → MR g H w → Ls P (SR H.length g w K) ((execOp ev o).run P w)
theorem OpS.mono {P : Program} {o : Oper} {fr : Frm} {H : Mem} {K K' : AV → Mem → Prop} (hk : ∀ r H', K r H' → K' r H') (h : OpS P o fr H K) : OpS P o fr H K' :=
 fun g w ev h1 h2 => Ls.mono (fun _ _ => SR.mono hk) (h g w ev h1 h2)
def agd (ops : Array Oper) (fr : Frm) (o : Oper) : Option Bool :=
 match o.guard with
 | none => some true
 | some (j, want) =>
  match (ops[j]?).bind (·.dst) with
  | none => some false
  | some d =>
   match fr d with
   | .sc (.bool b) => some (b == want)
   | .sc (.tuple _) => some false
   | _ => none
theorem wanted_agd {g : Gh} {n N : Nat} {ops : Array Oper} {fr : Frm} {o : Oper} {tmps : Array Value} (h : FR g n N fr tmps) {b : Bool} (hg : agd ops fr o = some b) :
  Region.wanted o (yielded ops tmps) = b := by
 unfold agd at hg
 unfold Region.wanted
 cases hgd : o.guard with
 | none => rw [hgd] at hg; simpa using hg
 | some jw =>
  obtain ⟨j, want⟩ := jw
  rw [hgd] at hg
  simp only at hg ⊢
  unfold yielded
  cases hd : (ops[j]?).bind (·.dst) with
  | none => rw [hd] at hg; simp at hg; subst hg; simp
  | some d =>
   rw [hd] at hg
   simp only at hg
   have hv := h.vr d
   rw [Array.getD_eq_getD_getElem?] at hv
   split at hg
   ·rename_i b' he
    rw [he] at hv
    cases hx : tmps[d]? with
    | none => rw [hx] at hv; simp only [Option.getD_none] at hv; unfold undef at hv; cases hv
    | some x =>
     rw [hx] at hv; simp only [Option.getD_some] at hv
     cases hv
     simp only [Option.some.injEq] at hg
     subst hg
     simp [hx]
   ·rename_i vs he
    rw [he] at hv
    simp only [Option.some.injEq] at hg
    subst hg
    cases hx : tmps[d]? with
    | none => simp [hx]
    | some x =>
     rw [hx] at hv; simp only [Option.getD_some] at hv
     cases hv
     simp [hx]
   ·cases hg
def OpsS (P : Program) (ops : Array Oper) : List Oper → Frm → Mem → (Frm → Mem → Prop) → Prop
 | [], fr, H, K => K fr H
 | o :: rest, fr, H, K =>
  match agd ops fr o with
  | some true => OpS P o fr H fun r H' => OpsS P ops rest (fr.put o.dst r) H' K
  | some false => OpsS P ops rest (fr.put o.dst (.sc undef)) H K
  | none => False
def CR (N n : Nat) (g : Gh) (w : World) (Q : Exit → Frm → Mem → Prop) (e : Exit) (a : Act) (w' : World) : Prop :=
 a.defers = [] ∧ ∃ fr H' g', Q e fr H' ∧ FR g' H'.length N fr a.tmps ∧ MR g' H' w' ∧ Ev n g w g' w' ∧ n ≤ H'.length
def aw (P : Program) (N n0 : Nat) (c : Code) (fr : Frm) (H : Mem) (Q : Exit → Frm → Mem → Prop) : Prop :=
 ∀ (g : Gh) (w : World) (a : Act), n0 ≤ H.length → a.defers = [] → FR g H.length N fr a.tmps → MR g H w → c.wp P (CR N n0 g w Q) a w
theorem CR.mono {N n : Nat} {g : Gh} {w : World} {Q Q' : Exit → Frm → Mem → Prop} (h : ∀ e fr H, Q e fr H → Q' e fr H) {e : Exit} {a : Act} {w' : World} (c : CR N n g w Q e a w') : CR N n g w Q' e a w' :=
 let ⟨d, fr, H', g', q, rest⟩ := c; ⟨d, fr, H', g', h _ _ _ q, rest⟩
theorem aw.mono {P : Program} {N n0 : Nat} {c : Code} {fr : Frm} {H : Mem} {Q Q' : Exit → Frm → Mem → Prop} (hq : ∀ e fr H, Q e fr H → Q' e fr H) (h : aw P N n0 c fr H Q) : aw P N n0 c fr H Q' :=
 fun g w a hl hd hf hm => wp_mono (h g w a hl hd hf hm) fun _ _ _ => CR.mono hq
theorem aw.from {P : Program} {N n0 : Nat} {c : Code} {fr : Frm} {H : Mem} {Q : Exit → Frm → Mem → Prop} (h : aw P N n0 c fr H Q) {g0 g : Gh} {w0 w : World} {a : Act}
  (hd : a.defers = []) (hf : FR g H.length N fr a.tmps) (hm : MR g H w) (he : Ev n0 g0 w0 g w) (hn : n0 ≤ H.length) : c.wp P (CR N n0 g0 w0 Q) a w :=
 wp_mono (h g w a hn hd hf hm) fun _ _ _ ⟨d, fr', H', g', q, f, m, e, l⟩ => ⟨d, fr', H', g', q, f, m, he.trans e (Nat.le_refl _), l⟩
def Reb (N n0 : Nat) (fr fr1 : Frm) (H H1 : Mem) : Prop :=
 ∀ (g : Gh) (w : World) (tmps : Array Value), n0 ≤ H.length → FR g H.length N fr tmps → MR g H w → ∃ g1, FR g1 H1.length N fr1 tmps ∧ MR g1 H1 w ∧ Ev n0 g w g1 w ∧ n0 ≤ H1.length
theorem Reb.refl {N n0 : Nat} {fr : Frm} {H : Mem} : Reb N n0 fr fr H H := fun g _ _ hl hf hm => ⟨g, hf, hm, .refl _ _ _, hl⟩
theorem Reb.trans {N n0 : Nat} {fr fr1 fr2 : Frm} {H H1 H2 : Mem} (h : Reb N n0 fr fr1 H H1) (h' : Reb N n0 fr1 fr2 H1 H2) : Reb N n0 fr fr2 H H2 := fun g w tmps hl hf hm => by
 obtain ⟨g1, f1, m1, e1, l1⟩ := h g w tmps hl hf hm
 obtain ⟨g2, f2, m2, e2, l2⟩ := h' g1 w tmps l1 f1 m1
 exact ⟨g2, f2, m2, e1.trans e2 (Nat.le_refl _), l2⟩
theorem aw_reb {P : Program} {N n0 : Nat} {c : Code} {fr fr1 : Frm} {H H1 : Mem} {Q : Exit → Frm → Mem → Prop} (hr : Reb N n0 fr fr1 H H1) (h : aw P N n0 c fr1 H1 Q) : aw P N n0 c fr H Q := fun g w a hl hd hf hm => by
 obtain ⟨g1, f1, m1, e1, l1⟩ := hr g w a.tmps hl hf hm
 exact aw.from h hd f1 m1 e1 l1
theorem aw.conseq {P : Program} {N n0 : Nat} {c : Code} {fr : Frm} {H : Mem} {Q Q' : Exit → Frm → Mem → Prop} (hq : ∀ e fr H, Q e fr H → ∃ fr1 H1, Reb N n0 fr fr1 H H1 ∧ Q' e fr1 H1) (h : aw P N n0 c fr H Q) : aw P N n0 c fr H Q' :=
 fun g w a hl hd hf hm => wp_mono (h g w a hl hd hf hm) fun e _ w' ⟨d, fr', H', g', q, f, m, ev, l⟩ => by
  obtain ⟨fr1, H1, hr, q1⟩ := hq e fr' H' q
  obtain ⟨g1, f1, m1, e1, l1⟩ := hr g' w' _ l f m
  exact ⟨d, fr1, H1, g1, q1, f1, m1, ev.trans e1 (Nat.le_refl _), l1⟩
theorem VR_sc {g : Gh} {n : Nat} {v u : Value} (h : VR g n (.sc v) u) : u = v := by cases h; rfl
theorem least {p : Nat → Prop} (h : ∃ k, p k) : ∃ k, p k ∧ ∀ j, p j → k ≤ j := by
 obtain ⟨k, hk⟩ := h
 induction k using Nat.strongRecOn with
 | _ k ih =>
  by_cases hx : ∃ j, j < k ∧ p j
  ·obtain ⟨j, hj, hp⟩ := hx
   exact ih j hj hp
  ·exact ⟨k, hk, fun j hj => by
    rcases Nat.lt_or_ge j k with hl | hl
    ·exact absurd ⟨j, hl, hj⟩ hx
    ·exact hl⟩
section rules
variable {P : Program} {N n0 : Nat} {fr : Frm} {H : Mem} {Q : Exit → Frm → Mem → Prop}
theorem CR.here {g : Gh} {w : World} {a : Act} {e : Exit} (hl : n0 ≤ H.length) (hd : a.defers = []) (hf : FR g H.length N fr a.tmps) (hm : MR g H w) (h : Q e fr H) : CR N n0 g w Q e a w :=
 ⟨hd, fr, H, g, h, hf, hm, .refl _ _ _, hl⟩
theorem aw_skip (h : Q .normal fr H) : aw P N n0 .skip fr H Q := fun _ _ _ hl hd hf hm => wp_skip (.here hl hd hf hm h)
theorem aw_ret (h : Q .ret fr H) : aw P N n0 .ret fr H Q := fun _ _ _ hl hd hf hm => wp_ret (.here hl hd hf hm h)
theorem aw_exit {id : Nat} (h : Q (.exit id) fr H) : aw P N n0 (.exit id) fr H Q := fun _ _ _ hl hd hf hm => wp_exit (.here hl hd hf hm h)
def thenQ (K : Frm → Mem → Prop) (Q : Exit → Frm → Mem → Prop) : Exit → Frm → Mem → Prop
 | .normal, fr, H => K fr H
 | e, fr, H => Q e fr H
theorem aw_seq {x y : Code} (h : aw P N n0 x fr H (thenQ (fun fr H => aw P N n0 y fr H Q) Q)) : aw P N n0 (.seq x y) fr H Q := fun g w a hl hd hf hm =>
 wp_seq (wp_mono (h g w a hl hd hf hm) fun e a' w' ⟨d, fr', H', g', q, f, m, ev, l⟩ => by
  cases e with
  | normal => exact aw.from q d f m ev l
  | _ => exact ⟨d, fr', H', g', q, f, m, ev, l⟩)
theorem aw_cond {c : Operand} {x y : Code} {b : Bool} (hc : aev fr c = .sc (.bool b)) (h : aw P N n0 (if b then x else y) fr H Q) : aw P N n0 (.cond c x y) fr H Q := fun g w a hl hd hf hm =>
 wp_cond (t := b) (VR_sc (by have := VR_aev hf c; rw [hc] at this; exact this)) (h g w a hl hd hf hm)
def blockQ (id : Nat) (Q : Exit → Frm → Mem → Prop) : Exit → Frm → Mem → Prop
 | .exit id', fr, H => if id' = id then Q .normal fr H else Q (.exit id') fr H
 | e, fr, H => Q e fr H
theorem aw_block {id : Nat} {c : Code} (h : aw P N n0 c fr H (blockQ id Q)) : aw P N n0 (.block id c) fr H Q := fun g w a hl hd hf hm =>
 wp_block (wp_mono (h g w a hl hd hf hm) fun e a' w' ⟨d, fr', H', g', q, f, m, ev, l⟩ => by
  cases e with
  | exit id' =>
   by_cases hid : id' = id
   ·simp only [blockQ, hid, if_true] at q
    simp only [Exit.inBlock, hid, if_true]
    exact ⟨d, fr', H', g', q, f, m, ev, l⟩
   ·simp only [blockQ, hid, if_false] at q
    simp only [Exit.inBlock, hid, if_false]
    exact ⟨d, fr', H', g', q, f, m, ev, l⟩
  | _ => exact ⟨d, fr', H', g', q, f, m, ev, l⟩)
open Classical in
theorem aw_loop {c : Code} (I : Nat → Frm → Mem → Prop) {k : Nat} (h0 : I k fr H)
  (h : ∀ k fr H, I k fr H → aw P N n0 c fr H (thenQ (fun fr' H' => ∃ k', k' < k ∧ I k' fr' H') Q)) : aw P N n0 (.loop c) fr H Q := by
 intro g w a hl hd hf hm
 let J : Nat → Act → World → Prop := fun k a' w' => a'.defers = [] ∧ ∃ fr' H' g', I k fr' H' ∧ FR g' H'.length N fr' a'.tmps ∧ MR g' H' w' ∧ Ev n0 g w g' w' ∧ n0 ≤ H'.length
 let μ : Act → World → Nat := fun a' w' => if hx : ∃ k, J k a' w' then Classical.choose (least hx) else 0
 refine wp_loop (fun a' w' => ∃ k, J k a' w') μ ⟨k, hd, fr, H, g, h0, hf, hm, .refl _ _ _, hl⟩ ?_
 intro a' w' hx
 have hj : J (Classical.choose (least hx)) a' w' := (Classical.choose_spec (least hx)).1
 have hμ : μ a' w' = Classical.choose (least hx) := by simp only [μ]; rw [dif_pos hx]
 obtain ⟨d, fr', H', g', q, f, m, ev, l⟩ := hj
 refine wp_mono (aw.from (h _ _ _ q) d f m ev l) ?_
 rintro e a2 w2 ⟨d2, fr2, H2, g2, q2, f2, m2, ev2, l2⟩
 cases e with
 | normal =>
  obtain ⟨k', hk', q3⟩ := q2
  have hj2 : J k' a2 w2 := ⟨d2, fr2, H2, g2, q3, f2, m2, ev2, l2⟩
  refine ⟨⟨k', hj2⟩, ?_⟩
  have hx2 : ∃ k, J k a2 w2 := ⟨k', hj2⟩
  have : μ a2 w2 = Classical.choose (least hx2) := by simp only [μ]; rw [dif_pos hx2]
  rw [this, hμ]
  exact Nat.lt_of_le_of_lt ((Classical.choose_spec (least hx2)).2 _ hj2) hk'
 | _ => exact ⟨d2, fr2, H2, g2, q2, f2, m2, ev2, l2⟩
def dstsLt (ops : List Oper) (N : Nat) : Bool := ops.all fun o => match o.dst with | some d => decide (d < N) | none => true
theorem OpsS_sound {ops : Array Oper} {K : Frm → Mem → Prop} {QQ : Exit → Act → World → Prop} {n0 : Nat} {g0 : Gh} {w0 : World}
  (hQ : ∀ (fr : Frm) (H : Mem) (g : Gh) (w : World) (a : Act), a.defers = [] → K fr H → FR g H.length N fr a.tmps → MR g H w → Ev n0 g0 w0 g w → n0 ≤ H.length → QQ .normal a w) :
  ∀ (l : List Oper) (fr : Frm) (H : Mem) (g : Gh) (w : World) (a : Act), dstsLt l N = true → OpsS P ops l fr H K → a.defers = [] → FR g H.length N fr a.tmps → MR g H w →
   Ev n0 g0 w0 g w → n0 ≤ H.length → wpList P ops QQ l a w
 | [], fr, H, g, w, a, _, h, hd, hf, hm, he, hn => hQ fr H g w a hd h hf hm he hn
 | o :: rest, fr, H, g, w, a, hlt, h, hd, hf, hm, he, hn => by
  simp only [dstsLt, List.all_cons, Bool.and_eq_true] at hlt
  have hdst : ∀ x, o.dst = some x → x < N := fun x hx => by have := hlt.1; rw [hx] at this; simpa using this
  simp only [OpsS] at h
  simp only [wpList]
  cases hg : agd ops fr o with
  | none => rw [hg] at h; exact h.elim
  | some b =>
   rw [hg] at h
   have hw := wanted_agd hf hg
   cases b with
   | true =>
    rw [if_pos hw]
    refine .inl (wp_of_Ls (h g w a.eval (fun x _ => VR_aev hf x) hm) ?_)
    rintro v w' ⟨r, H', g', k, hv, hm', he', hn'⟩
    refine OpsS_sound hQ rest _ H' g' w' _ hlt.2 k ?_ (FR.put (FR.mono he'.gle hn' hf) hdst hv) hm' (he.trans he' hn) (Nat.le_trans hn hn')
    cases o.dst <;> exact hd
   | false =>
    rw [if_neg (by rw [hw]; simp)]
    refine OpsS_sound hQ rest _ H g w _ hlt.2 h ?_ (FR.put hf hdst (.sc undef)) hm he hn
    cases o.dst <;> exact hd
theorem aw_region {id : Nat} {l : List Oper} (hlt : dstsLt l N = true) (h : OpsS P l.toArray l fr H fun fr H => Q .normal fr H) : aw P N n0 (.region id l.toArray false) fr H Q :=
 fun g w a hl hd hf hm => wp_region_lit (OpsS_sound (n0 := n0) (g0 := g) (w0 := w) (fun fr' H' g' _ _ d k f m e n => ⟨d, fr', H', g', k, f, m, e, n⟩) l fr H g w a hlt h hd hf hm (.refl _ _ _) hl)
end rules
def callable (P : Program) (f : FuncId) : Bool := match P.funcs[f]? with | some fn => fn.body.isSome && fn.name != "runtime.NumGoroutine" | none => false
def ACalls (P : Program) (f : FuncId) (args : List AV) (H : Mem) (R : AV → Mem → Prop) : Prop :=
 callable P f = true ∧ ∀ (g : Gh) (w : World) (vals : Array Value), MR g H w → vals.size = args.length → (∀ (i : Nat) c, args[i]? = some c → VR g H.length c (vals.getD i undef)) →
  Calls P f vals w fun e w' => ∃ v, e = .returned v ∧ SR H.length g w R v w'
theorem ACalls.mono {P : Program} {f : FuncId} {args : List AV} {H : Mem} {R R' : AV → Mem → Prop} (hr : ∀ r H', R r H' → R' r H') (h : ACalls P f args H R) : ACalls P f args H R' :=
 ⟨h.1, fun g w vals h1 h2 h3 => (h.2 g w vals h1 h2 h3).mono fun _ _ ⟨v, e, s⟩ => ⟨v, e, s.mono hr⟩⟩
def afr0 (args : List AV) : Frm := fun t => args.getD t (.sc undef)
theorem FR0 {g : Gh} {n N : Nat} {args : List AV} {vals : Array Value} (hs : vals.size = args.length) (hN : args.length ≤ N) (h : ∀ (i : Nat) c, args[i]? = some c → VR g n c (vals.getD i undef)) :
  FR g n N (afr0 args) (vals ++ Array.replicate (N - vals.size) undef) := by
 refine ⟨by simp; omega, fun t => ?_⟩
 unfold afr0
 rw [List.getD_eq_getElem?_getD, Array.getD_eq_getD_getElem?]
 cases ht : args[t]? with
 | none =>
  have hl : args.length ≤ t := by simpa using ht
  simp only [Option.getD_none]
  rw [Array.getElem?_append_right (by omega)]
  by_cases h2 : t - vals.size < N - vals.size
  ·rw [Array.getElem?_replicate, if_pos h2]; exact .sc _
  ·rw [Array.getElem?_replicate, if_neg h2]; exact .sc _
 | some c =>
  have hl : t < args.length := by
   rcases Nat.lt_or_ge t args.length with hh | hh
   ·exact hh
   ·rw [List.getElem?_eq_none hh] at ht; cases ht
  have := h t c ht
  rw [Array.getD_eq_getD_getElem?] at this
  rw [Array.getElem?_append_left (by omega)]
  simpa using this
def resS (P : Program) (fn : Func) (fr : Frm) (H : Mem) (R : AV → Mem → Prop) : Prop :=
 ∀ (g : Gh) (w : World) (N : Nat) (tmps : Array Value), FR g H.length N fr tmps → MR g H w → ∃ v, (results fn tmps).run P w = .ok v w ∧ ∃ r, R r H ∧ VR g H.length r v
theorem acalls_of_aw {P : Program} {f : FuncId} {fn : Func} {c : Code} {args : List AV} {H : Mem} {R : AV → Mem → Prop} (hf : P.funcs[f]? = some fn) (hb : fn.body = some c) (hcl : callable P f = true)
  (hN : args.length ≤ fn.ntmps)
  (h : aw P fn.ntmps H.length c (afr0 args) H fun e fr H' => match e with | .normal | .ret => ∃ fr1 H1, Reb fn.ntmps H.length fr fr1 H' H1 ∧ resS P fn fr1 H1 R | _ => False) : ACalls P f args H R := by
 refine ⟨hcl, fun g w vals hm hs hv => calls_of_wp hf hb ?_⟩
 refine wp_mono (h g w _ (Nat.le_refl _) rfl (FR0 hs hN hv) hm) ?_
 rintro e a' w' ⟨d, fr', H', g', q, f', m, ev, l⟩
 have fin : (∃ fr1 H1, Reb fn.ntmps H.length fr' fr1 H' H1 ∧ resS P fn fr1 H1 R) → ∃ v, (results fn a'.tmps).run P w' = .ok v w' ∧ ∃ u, Ending.returned v = .returned u ∧ SR H.length g w R u w' := fun ⟨fr1, H1, hr, q⟩ => by
  obtain ⟨g1, f1, m1, e1, l1⟩ := hr g' w' _ l f' m
  obtain ⟨v, hr, r, hR, hvr⟩ := q g1 w' _ a'.tmps f1 m1
  exact ⟨v, hr, v, rfl, r, H1, g1, hR, hvr, m1, ev.trans e1 (Nat.le_refl _), l1⟩
 cases e with
 | normal => exact ⟨d, fin q⟩
 | ret => exact ⟨d, fin q⟩
 | _ => exact q.elim
end Go.Proofs.YtaaamoicidfgcaaGreat.Am
namespace Go.Proofs.YtaaamoicidfgcaaGreat.Am
open Go
theorem get_snoc {α : Type} {l : List α} {x y : α} {i : Nat} (h : (l ++ [x])[i]? = some y) : l[i]? = some y ∨ (i = l.length ∧ y = x) := by
 rcases Nat.lt_trichotomy i l.length with hl | hl | hl
 ·rw [List.getElem?_append_left hl] at h; exact .inl h
 ·subst hl; simp at h; exact .inr ⟨rfl, h.symm⟩
 ·rw [List.getElem?_eq_none (by simp; omega)] at h; cases h
theorem get_set {α : Type} {l : List α} {x y : α} {i j : Nat} (h : (l.set j x)[i]? = some y) : (i ≠ j ∧ l[i]? = some y) ∨ (i = j ∧ y = x ∧ j < l.length) := by
 by_cases e : j = i
 ·subst e
  rw [List.getElem?_set_self'] at h
  rcases Nat.lt_or_ge j l.length with hl | hl
  ·rw [List.getElem?_eq_getElem hl] at h; simp at h; exact .inr ⟨rfl, h.symm, hl⟩
  ·rw [List.getElem?_eq_none hl] at h; cases h
 ·rw [List.getElem?_set_ne e] at h; exact .inl ⟨fun he => e he.symm, h⟩
theorem lt_of_get {α : Type} {l : List α} {i : Nat} {x : α} (h : l[i]? = some x) : i < l.length := by
 rcases Nat.lt_or_ge i l.length with hl | hl
 ·exact hl
 ·rw [List.getElem?_eq_none hl] at h; cases h
theorem alt_of_get {α : Type} {l : Array α} {i : Nat} {x : α} (h : l[i]? = some x) : i < l.size := by
 rcases Nat.lt_or_ge i l.size with hl | hl
 ·exact hl
 ·rw [Array.getElem?_eq_none hl] at h; cases h
theorem block_lt {w : World} {a : Addr} {v : Value} (h : w.cell? a = some v) : a.block < w.heap.size := by
 unfold World.cell? at h
 cases hb : w.heap[a.block]? with
 | none => rw [hb] at h; cases h
 | some o => exact alt_of_get hb
theorem cell_of {w w' : World} {a : Addr} (h : w'.heap[a.block]? = w.heap[a.block]?) : w'.cell? a = w.cell? a := by unfold World.cell?; rw [h]
theorem Blk.of {w w' : World} {b l : Nat} (h : w'.heap[b]? = w.heap[b]?) (hb : Blk w b l) : Blk w' b l := by
 obtain ⟨c, e, fr, h1, h2, h3⟩ := hb
 exact ⟨c, e, fr, h.trans h1, h2, h3⟩
theorem MapR.mono {g g' : Gh} {n n' : Nat} (h : Gle n g g') (hn : n ≤ n') {es : List (Value × AV)} {ents : Array MapEntry} {clock : Nat} (hm : MapR g n es ents clock) : MapR g' n' es ents clock :=
 ⟨hm.st, hm.size, hm.keys, fun k a hi => let ⟨x, h1, h2, h3⟩ := hm.get k a hi; ⟨x, h1, h2, h3.mono h hn⟩, hm.all⟩
theorem TrR.move {g g' : Gh} {n n' : Nat} {w w' : World} {ow ow' : Nat → Option (List Nat)} (hg : Gle n g g') (hn : n ≤ n') {p : List Nat} {t : Tr} {v : Value} (h : TrR g n w ow p t v) :
  ∀ p', (∀ b r, ow b = some (p ++ r) → ow' b = some (p' ++ r) ∧ (∀ o, g'.ro b o = g.ro b o) ∧ w'.heap[b]? = w.heap[b]?) → TrR g' n' w' ow' p' t v := by
 induction h with
 | av p a v h => exact fun p' _ => .av p' a v (h.mono hg hn)
 | hs p z len cs b o l cap f ho hb hc hlen hl hro hv _ ih =>
  intro p' hb'
  obtain ⟨k1, k2, k3⟩ := hb' b [] (by simpa using ho)
  refine .hs p' z len cs b o l cap f (by simpa using k1) (hb.of k3) hc hlen hl (fun o' => (k2 o').trans (hro o')) (fun k c hk => (cell_of k3).trans (hv k c hk)) fun k c hk => ih k c hk _ fun b' r hr => ?_
  have := hb' b' (k :: r) (by simpa using hr)
  simpa using this
 | hn p z a => exact fun p' _ => .hn p' z a
 | sr p z es a len cap hlen h hk =>
  intro p' hb'
  refine .sr p' z es a len cap hlen (h.mono hg hn) (hk.imp id fun ⟨h1, h2, h3⟩ => ?_)
  obtain ⟨k1, k2, k3⟩ := hb' a.block [] (by simpa using h1)
  exact ⟨by simpa using k1, h2.of k3, fun o v hv => h3 o v (by rw [← k2]; exact hv)⟩
 | srn p z => exact fun p' _ => .srn p' z
 | pt p cs b o l f ho hb hl hro hv _ ih =>
  intro p' hb'
  obtain ⟨k1, k2, k3⟩ := hb' b [] (by simpa using ho)
  refine .pt p' cs b o l f (by simpa using k1) (hb.of k3) hl (fun o' => (k2 o').trans (hro o')) (fun k c hk => (cell_of k3).trans (hv k c hk)) fun k c hk => ih k c hk _ fun b' r hr => ?_
  have := hb' b' (k :: r) (by simpa using hr)
  simpa using this
 | mp p es b ents clock ho hro hb hm =>
  intro p' hb'
  obtain ⟨k1, k2, k3⟩ := hb' b [] (by simpa using ho)
  exact .mp p' es b ents clock (by simpa using k1) (fun o => (k2 o).trans (hro o)) (k3.trans hb) (hm.mono hg hn)
theorem EntR.keep {g g' : Gh} {n n' : Nat} {w w' : World} {id : Nat} {e : Ent} (h : EntR g n w id e) (hid : id < n) (hg : Gle n g g') (hn : n ≤ n')
  (hb : ∀ b, g.ow b = some id → g'.ow b = some id ∧ (∀ o, g'.ro b o = g.ro b o) ∧ w'.heap[b]? = w.heap[b]?) : EntR g' n' w' id e := by
 have hmu := hg.mu id hid
 cases e with
 | dead => trivial
 | tok =>
  simp only [EntR]
  rw [hmu]
  rcases h with h | ⟨h1, h2, h3⟩
  ·exact .inl h
  ·obtain ⟨ho, hro, hh⟩ := hb _ h1
   exact .inr ⟨ho, h2.of hh, fun o v hv => h3 o v (by rw [← hro]; exact hv)⟩
 | cells cs =>
  simp only [EntR]
  rw [hmu]
  rcases h with h | ⟨h1, h2, h3, h4, h5⟩
  ·exact .inl h
  obtain ⟨ho, hro, hh⟩ := hb _ h1
  refine .inr ⟨ho, h2.of hh, h3, fun o => by rw [hro]; exact h4 o, fun k c hc => ?_⟩
  obtain ⟨v, hv, hr⟩ := h5 k c hc
  exact ⟨v, (cell_of (w := w) (w' := w') hh).trans hv, hr.mono hg hn⟩
 | map es =>
  obtain ⟨h1, h2, ents, clock, h3, h4⟩ := h
  obtain ⟨ho, hro, hh⟩ := hb _ h1
  simp only [EntR]
  rw [hmu]
  exact ⟨ho, fun o => by rw [hro]; exact h2 o, ents, clock, hh.trans h3, h4.mono hg hn⟩
 | tr cs =>
  simp only [EntR]
  rw [hmu]
  rcases h with h | ⟨ow, h0, h1, h2, h3, h4, h5⟩
  ·exact .inl h
  obtain ⟨ho, hro, hh⟩ := hb _ (h0 _ _ h1)
  refine .inr ⟨ow, fun b p hp => (hb b (h0 b p hp)).1, h1, h2.of hh, h3, fun o => by rw [hro]; exact h4 o, fun k c hc => ?_⟩
  obtain ⟨v, hv, hr⟩ := h5 k c hc
  exact ⟨v, (cell_of (w := w) (w' := w') hh).trans hv, hr.move hg hn [k] fun b r hr => ⟨hr, (hb b (h0 b _ hr)).2⟩⟩
 | mpi es ents clock =>
  obtain ⟨h1, h2, h3, h4⟩ := h
  obtain ⟨ho, hro, hh⟩ := hb _ h1
  simp only [EntR]
  rw [hmu]
  exact ⟨ho, fun o => by rw [hro]; exact h2 o, hh.trans h3, h4.mono hg hn⟩
 | itr mid since seen stepped =>
  obtain ⟨h0, h1, h2, h3, h4⟩ := h
  obtain ⟨ho, hro, hh⟩ := hb _ h1
  simp only [EntR]
  rw [hmu, hg.mu mid h0]
  exact ⟨Nat.lt_of_lt_of_le h0 hn, ho, fun o => by rw [hro]; exact h2 o, h3, hh.trans h4⟩
 | lit vs =>
  obtain ⟨h1, h2, h3, h4, h5⟩ := h
  obtain ⟨ho, hro, hh⟩ := hb _ h1
  simp only [EntR]
  rw [hmu]
  exact ⟨ho, h2.of hh, h3, fun o => by rw [hro]; exact h4 o, fun k v hk => (cell_of (w := w) (w' := w') hh).trans (h5 k v hk)⟩
theorem EntR.own {g : Gh} {n : Nat} {w : World} {id : Nat} {e : Ent} (h : EntR g n w id e) (hid : id < n) : (∀ g' n' w', Gle n g g' → EntR g' n' w' id e) ∨ g.ow (g.mu id).b = some id := by
 cases e with
 | dead => exact .inl fun _ _ _ _ => trivial
 | tok =>
  rcases h with h | h
  ·exact .inl fun g' _ _ hg => .inl (by rw [hg.mu id hid]; exact h)
  ·exact .inr h.1
 | cells cs =>
  rcases h with h | h
  ·exact .inl fun g' _ _ hg => .inl (by rw [hg.mu id hid]; exact h)
  ·exact .inr h.1
 | map es => exact .inr h.1
 | tr cs =>
  rcases h with h | ⟨ow, h0, h1, _⟩
  ·exact .inl fun g' _ _ hg => .inl (by rw [hg.mu id hid]; exact h)
  ·exact .inr (h0 _ _ h1)
 | mpi es ents clock => exact .inr h.1
 | itr mid since seen stepped => exact .inr h.2.1
 | lit vs => exact .inr h.1
theorem MR.of_heap {g : Gh} {H : Mem} {w w' : World} (h : MR g H w) (hh : w'.heap = w.heap) : MR g H w' :=
 ⟨fun b o v hv => (cell_of (by rw [hh])).trans (h.ro b o v hv), fun id e he => (h.ent id e he).keep (lt_of_get he) (.refl _ _) (Nat.le_refl _) fun b ho => ⟨ho, fun _ => rfl, by rw [hh]⟩, fun b id ho => by rw [hh]; exact h.ow b id ho⟩
theorem MR.ro_lt {g : Gh} {H : Mem} {w : World} (h : MR g H w) {b o : Nat} {v : Value} (hv : g.ro b o = some v) : b < w.heap.size := block_lt (a := ⟨b, o, none⟩) (h.ro b o v hv)
structure Push (w w1 : World) (c : Array Value) (e : TypeId) (fr : Nat × Nat) : Prop where
 heap : w1.heap = w.heap.push (.cells c e fr)
 os : w1.os = w.os
 tape : w1.tape = w.tape
 output : w1.output = w.output
section push
variable {w w1 : World} {c : Array Value} {e : TypeId} {fr : Nat × Nat} (hp : Push w w1 c e fr)
include hp
theorem Push.old {b : Nat} (h : b < w.heap.size) : w1.heap[b]? = w.heap[b]? := by rw [hp.heap, Array.getElem?_push, if_neg (by omega)]
theorem Push.new : w1.heap[w.heap.size]? = some (.cells c e fr) := by rw [hp.heap, Array.getElem?_push, if_pos rfl]
theorem Push.size : w1.heap.size = w.heap.size + 1 := by rw [hp.heap, Array.size_push]
theorem Push.cell (o : Nat) : w1.cell? ⟨w.heap.size, o, none⟩ = c[o]? := by unfold World.cell?; rw [hp.new]; rfl
theorem Push.cell_old {a : Addr} (h : a.block < w.heap.size) : w1.cell? a = w.cell? a := cell_of (hp.old h)
theorem Push.blk {l : Nat} (hl : l ≤ c.size) (hfr : ∀ o, o < l → (decide (fr.1 ≤ o) && decide (o < fr.2)) = false) : Blk w1 w.heap.size l := ⟨c, e, fr, hp.new, hl, hfr⟩
end push
def Gh.addE (g : Gh) (n : Nat) (p : Pl) : Gh := { g with ow := fun b => if b = p.b then some n else g.ow b, mu := fun i => if i = n then p else g.mu i }
def Gh.addR (g : Gh) (b k : Nat) (c : Array Value) : Gh := { g with ro := fun b' o => if b' = b ∧ o < k then c[o]? else g.ro b' o }
def VRs (g : Gh) (n : Nat) (acs : List AV) (c : Array Value) : Prop := c.size = acs.length ∧ ∀ (i : Nat) a, acs[i]? = some a → VR g n a (c.getD i undef)
theorem VRs.mono {g g' : Gh} {n n' : Nat} (h : Gle n g g') (hn : n ≤ n') {acs : List AV} {c : Array Value} (hv : VRs g n acs c) : VRs g' n' acs c := ⟨hv.1, fun i a ha => (hv.2 i a ha).mono h hn⟩
theorem VRs.get {g : Gh} {n : Nat} {acs : List AV} {c : Array Value} (h : VRs g n acs c) {i : Nat} {a : AV} (ha : acs[i]? = some a) : ∃ v, c[i]? = some v ∧ VR g n a v := by
 have hl := lt_of_get ha
 have hs := h.1
 refine ⟨c.getD i undef, ?_, h.2 i a ha⟩
 rw [Array.getD_eq_getD_getElem?, Array.getElem?_eq_getElem (by omega)]
 rfl
theorem MR.push_cells {g : Gh} {H : Mem} {w w1 : World} {c : Array Value} {e : TypeId} {fr : Nat × Nat} (hm : MR g H w) (hp : Push w w1 c e fr)
  (hfr : ∀ o, o < c.size → (decide (fr.1 ≤ o) && decide (o < fr.2)) = false) {acs : List AV} (hle : acs.length ≤ c.size)
  (hv : ∀ (i : Nat) a, acs[i]? = some a → ∃ v, c[i]? = some v ∧ VR g H.length a v) :
  MR (g.addE H.length ⟨w.heap.size, 0, c.size⟩) (H ++ [.cells acs]) w1 ∧ Ev H.length g w (g.addE H.length ⟨w.heap.size, 0, c.size⟩) w1 := by
 have hgle : Gle H.length g (g.addE H.length ⟨w.heap.size, 0, c.size⟩) := ⟨fun _ _ _ h => h, fun id hid => by simp only [Gh.addE]; rw [if_neg (by omega)]⟩
 refine ⟨⟨fun b o v hro => ?_, fun id x hx => ?_, fun b id ho => ?_⟩, ⟨hgle, fun b hb ho => ⟨?_, hp.old hb⟩, by rw [hp.size]; omega, hp.os, hp.tape, hp.output⟩⟩
 ·have := hm.ro b o v hro
  rw [hp.cell_old (block_lt this)]; exact this
 ·rcases get_snoc hx with hx | ⟨rfl, rfl⟩
  ·have hid := lt_of_get hx
   have he := hm.ent id x hx
   rcases he.own hid with hfr' | hown
   ·exact hfr' _ _ _ hgle
   ·refine he.keep hid hgle (by simp) fun b hown => ?_
    have hb := (hm.ow _ _ hown).1
    refine ⟨?_, fun _ => rfl, hp.old hb⟩
    simp only [Gh.addE]; rw [if_neg (by omega)]; exact hown
  ·simp only [EntR, Gh.addE, if_pos]
   refine .inr ⟨trivial, hp.blk (Nat.le_refl _) hfr, by omega, fun o => ?_, fun k a ha => ?_⟩
   ·cases hro : g.ro w.heap.size o with
    | none => rfl
    | some v => have := hm.ro_lt hro; omega
   ·obtain ⟨v, h1, h2⟩ := hv k a ha
    refine ⟨v, by rw [Nat.zero_add, hp.cell]; exact h1, h2.mono hgle (by simp)⟩
 ·simp only [Gh.addE] at ho
  by_cases hb : b = w.heap.size
  ·rw [if_pos hb] at ho; cases ho; exact ⟨by rw [hp.size]; omega, by simp⟩
  ·rw [if_neg hb] at ho
   have := hm.ow b id ho
   exact ⟨by rw [hp.size]; omega, by simp; omega⟩
 ·simp only [Gh.addE]; rw [if_neg (by omega)]; exact ho
theorem MR.push_ro {g : Gh} {H : Mem} {w w1 : World} {c : Array Value} {e : TypeId} {fr : Nat × Nat} (hm : MR g H w) (hp : Push w w1 c e fr) (k : Nat) :
  MR (g.addR w.heap.size k c) H w1 ∧ Ev H.length g w (g.addR w.heap.size k c) w1 := by
 have hnone : ∀ o, g.ro w.heap.size o = none := fun o => by
  cases hro : g.ro w.heap.size o with
  | none => rfl
  | some v => have := hm.ro_lt hro; omega
 have hgle : Gle H.length g (g.addR w.heap.size k c) := ⟨fun b o v h => by
  simp only [Gh.addR]
  by_cases hb : b = w.heap.size ∧ o < k
  ·rw [hb.1, hnone] at h; cases h
  ·rw [if_neg hb]; exact h, fun id hid => rfl⟩
 refine ⟨⟨fun b o v hro => ?_, fun id x hx => ?_, fun b id ho => ?_⟩, ⟨hgle, fun b hb ho => ⟨ho, hp.old hb⟩, by rw [hp.size]; omega, hp.os, hp.tape, hp.output⟩⟩
 ·simp only [Gh.addR] at hro
  by_cases hb : b = w.heap.size ∧ o < k
  ·rw [if_pos hb] at hro; rw [hb.1, hp.cell]; exact hro
  ·rw [if_neg hb] at hro
   have := hm.ro b o v hro
   rw [hp.cell_old (block_lt this)]; exact this
 ·have hid := lt_of_get hx
  have he := hm.ent id x hx
  rcases he.own hid with hfr' | hown
  ·exact hfr' _ _ _ hgle
  ·refine he.keep hid hgle (Nat.le_refl _) fun b hown => ?_
   have hb := (hm.ow _ _ hown).1
   refine ⟨hown, fun o => ?_, hp.old hb⟩
   simp only [Gh.addR]; rw [if_neg (by omega)]
 ·have := hm.ow b id ho
  exact ⟨by rw [hp.size]; omega, this.2⟩
theorem MR.push_tok {g : Gh} {H : Mem} {w w1 : World} {c : Array Value} {e : TypeId} {fr : Nat × Nat} (hm : MR g H w) (hp : Push w w1 c e fr)
  (hfr : ∀ o, o < c.size → (decide (fr.1 ≤ o) && decide (o < fr.2)) = false) (k : Nat) :
  MR ((g.addR w.heap.size k c).addE H.length ⟨w.heap.size, k, c.size⟩) (H ++ [.tok]) w1 ∧ Ev H.length g w ((g.addR w.heap.size k c).addE H.length ⟨w.heap.size, k, c.size⟩) w1 := by
 obtain ⟨hm1, he1⟩ := hm.push_ro hp k
 have hgle : Gle H.length (g.addR w.heap.size k c) ((g.addR w.heap.size k c).addE H.length ⟨w.heap.size, k, c.size⟩) := ⟨fun _ _ _ h => h, fun id hid => by simp only [Gh.addE]; rw [if_neg (by omega)]⟩
 have hnow : g.ow w.heap.size = none := by
  cases ho : g.ow w.heap.size with
  | none => rfl
  | some id => have := (hm.ow _ _ ho).1; omega
 refine ⟨⟨hm1.ro, fun id x hx => ?_, fun b id ho => ?_⟩, ⟨he1.gle.trans hgle (Nat.le_refl _), fun b hb ho => ⟨?_, (he1.un b hb ho).2⟩, he1.size, he1.os, he1.tape, he1.output⟩⟩
 ·rcases get_snoc hx with hx | ⟨rfl, rfl⟩
  ·have hid := lt_of_get hx
   have he := hm1.ent id x hx
   rcases he.own hid with hfr' | hown
   ·exact hfr' _ _ _ hgle
   ·refine he.keep hid hgle (by simp) fun b hown => ⟨?_, fun _ => rfl, rfl⟩
    have hb : b ≠ w.heap.size := fun hb => by
     rw [hb] at hown
     have : g.ow w.heap.size = some id := hown
     rw [hnow] at this; cases this
    simp only [Gh.addE]; rw [if_neg hb]; exact hown
  ·simp only [EntR, Gh.addE, if_pos]
   refine .inr ⟨trivial, hp.blk (Nat.le_refl _) hfr, fun o v hv => ?_⟩
   simp only [Gh.addR] at hv
   rcases Nat.lt_or_ge o k with hk | hk
   ·exact hk
   ·rw [if_neg (by omega)] at hv
    have := hm.ro_lt hv; omega
 ·simp only [Gh.addE] at ho
  by_cases hb : b = w.heap.size
  ·rw [if_pos hb] at ho; cases ho; exact ⟨by rw [hp.size]; omega, by simp⟩
  ·rw [if_neg hb] at ho
   have := hm1.ow b id ho
   exact ⟨this.1, by simp; omega⟩
 ·simp only [Gh.addE]; rw [if_neg (by omega)]; exact ho
theorem MR.push_void {g : Gh} {H : Mem} {w : World} (hm : MR g H w) :
  MR ({ g with mu := fun i => if i = H.length then ⟨0, 1, 0⟩ else g.mu i } : Gh) (H ++ [.tok]) w ∧ Ev H.length g w ({ g with mu := fun i => if i = H.length then ⟨0, 1, 0⟩ else g.mu i } : Gh) w := by
 have hgle : Gle H.length g ({ g with mu := fun i => if i = H.length then ⟨0, 1, 0⟩ else g.mu i } : Gh) := ⟨fun _ _ _ h => h, fun id hid => by simp only; rw [if_neg (by omega)]⟩
 refine ⟨⟨hm.ro, fun id x hx => ?_, fun b id ho => ?_⟩, ⟨hgle, fun b _ ho => ⟨ho, rfl⟩, Nat.le_refl _, rfl, rfl, rfl⟩⟩
 ·rcases get_snoc hx with hx | ⟨rfl, rfl⟩
  ·exact (hm.ent id x hx).keep (lt_of_get hx) hgle (by simp) fun b ho => ⟨ho, fun _ => rfl, rfl⟩
  ·exact .inl (by simp)
 ·have := hm.ow b id ho
  exact ⟨this.1, by simp; omega⟩
theorem MR.move_tok {g : Gh} {H : Mem} {w : World} {t : Nat} (hm : MR g H w) (ht : H[t]? = some .tok) :
  MR ({ g with mu := fun i => if i = H.length then g.mu t else g.mu i, ow := fun b => if g.ow b = some t then some H.length else g.ow b } : Gh) (H.set t .dead ++ [.tok]) w ∧
  Ev H.length g w ({ g with mu := fun i => if i = H.length then g.mu t else g.mu i, ow := fun b => if g.ow b = some t then some H.length else g.ow b } : Gh) w := by
 have hgle : Gle H.length g ({ g with mu := fun i => if i = H.length then g.mu t else g.mu i, ow := fun b => if g.ow b = some t then some H.length else g.ow b } : Gh) := ⟨fun _ _ _ h => h, fun id hid => by simp only; rw [if_neg (by omega)]⟩
 refine ⟨⟨hm.ro, fun id x hx => ?_, fun b id ho => ?_⟩, ⟨hgle, fun b _ ho => ⟨by simp only [ho]; simp, rfl⟩, Nat.le_refl _, rfl, rfl, rfl⟩⟩
 ·rcases get_snoc hx with hx | ⟨rfl, rfl⟩
  ·rcases get_set hx with ⟨hne, hx⟩ | ⟨rfl, rfl, _⟩
   ·have hid := lt_of_get hx
    have he := hm.ent id x hx
    rcases he.own hid with hfr' | hown
    ·exact hfr' _ _ _ hgle
    ·refine he.keep hid hgle (by simp) fun b hown => ⟨?_, fun _ => rfl, rfl⟩
     simp only [hown, Option.some.injEq]; rw [if_neg hne]
   ·trivial
  ·have he := hm.ent t _ ht
   have hl : (H.set t Ent.dead).length = H.length := by simp
   simp only [EntR, hl, if_true]
   rcases he with he | ⟨h1, h2, h3⟩
   ·exact .inl he
   ·exact .inr ⟨by rw [if_pos h1], h2, h3⟩
 ·simp only at ho
  split at ho
  ·rename_i h1; cases ho
   exact ⟨(hm.ow b t h1).1, by simp⟩
  ·have := hm.ow b id ho
   exact ⟨this.1, by simp; omega⟩
structure Upd (w w1 : World) (b : Nat) (o : Obj) : Prop where
 heap : w1.heap = w.heap.setIfInBounds b o
 os : w1.os = w.os
 tape : w1.tape = w.tape
 output : w1.output = w.output
section upd
variable {w w1 : World} {b : Nat} {o : Obj} (hu : Upd w w1 b o)
include hu
theorem Upd.other {b' : Nat} (h : b' ≠ b) : w1.heap[b']? = w.heap[b']? := by rw [hu.heap, Array.getElem?_setIfInBounds_ne (Ne.symm h)]
theorem Upd.same (h : b < w.heap.size) : w1.heap[b]? = some o := by rw [hu.heap, Array.getElem?_setIfInBounds_self_of_lt h]
theorem Upd.size : w1.heap.size = w.heap.size := by rw [hu.heap]; simp
theorem Upd.cell_other {a : Addr} (h : a.block ≠ b) : w1.cell? a = w.cell? a := cell_of (hu.other h)
end upd
theorem MR.put {g : Gh} {H : Mem} {w w1 : World} {id : Nat} {cs cs' : List AV} {c c' : Array Value} {e : TypeId} {fr : Nat × Nat} (hm : MR g H w) (hid : H[id]? = some (.cells cs)) (hne0 : cs ≠ [])
  (hb : w.heap[(g.mu id).b]? = some (.cells c e fr)) (hu : Upd w w1 (g.mu id).b (.cells c' e fr)) (hs : c'.size = c.size) (hl : cs'.length = cs.length)
  (hv : ∀ (k : Nat) a, cs'[k]? = some a → ∃ v, c'[(g.mu id).o + k]? = some v ∧ VR g H.length a v) :
  MR g (H.set id (.cells cs')) w1 ∧ Ev H.length g w g w1 := by
 have hx := hm.ent id _ hid
 obtain ⟨h1, h2, h3, h4, h5⟩ := hx.resolve_left fun h => hne0 h.1
 have hlt := (hm.ow _ _ h1).1
 refine ⟨⟨fun b o v hro => ?_, fun id' x hx => ?_, fun b id' ho => ?_⟩, ⟨.refl _ _, fun b hb' ho => ⟨ho, hu.other fun hbb => ?_⟩, by rw [hu.size]; omega, hu.os, hu.tape, hu.output⟩⟩
 ·have := hm.ro b o v hro
  rw [hu.cell_other]
  ·exact this
  ·intro hbb; simp only at hbb; rw [hbb, h4] at hro; cases hro
 ·rcases get_set hx with ⟨hne, hx⟩ | ⟨rfl, rfl, _⟩
  ·have hid' := lt_of_get hx
   have he := hm.ent id' x hx
   rcases he.own hid' with hfr' | hown
   ·exact hfr' _ _ _ (.refl _ _)
   ·refine he.keep hid' (.refl _ _) (by simp) fun b hown => ⟨hown, fun _ => rfl, hu.other fun hbb => ?_⟩
    rw [hbb, h1] at hown; cases hown; exact hne rfl
  ·simp only [EntR]
   refine .inr ⟨h1, ?_, by omega, h4, fun k a ha => ?_⟩
   ·obtain ⟨c2, e2, fr2, g1, g2, g3⟩ := h2
    rw [hb] at g1; cases g1
    exact ⟨c', e, fr, hu.same hlt, by omega, g3⟩
   ·obtain ⟨v, k1, k2⟩ := hv k a ha
    refine ⟨v, ?_, by simpa using k2⟩
    unfold World.cell?
    rw [hu.same hlt]; exact k1
 ·have := hm.ow b id' ho
  rw [hu.size]; exact ⟨this.1, by simpa using this.2⟩
 ·rw [hbb, h1] at ho; cases ho
theorem mem_same {M : Mem} {i : Nat} {x : Ent} (h : M[i]? = some x) : M.set i x = M := by
 apply List.ext_getElem?
 intro k
 by_cases e : i = k
 ·subst e; rw [List.getElem?_set_self (lt_of_get h), h]
 ·rw [List.getElem?_set_ne e]
theorem MR.cellAt {g : Gh} {H : Mem} {w : World} (hm : MR g H w) {id : Nat} {cs : List AV} (he : H[id]? = some (.cells cs)) (k : Nat) (c : AV) (hc : cs[k]? = some c) :
  ∃ v, w.cell? ⟨(g.mu id).b, (g.mu id).o + k, none⟩ = some v ∧ VR g H.length c v := ((hm.ent id _ he).resolve_left fun e => ne_nil_of_get hc e.1).2.2.2.2 k c hc
theorem MR.owned {g : Gh} {H : Mem} {w : World} (hm : MR g H w) {id : Nat} {cs : List AV} (he : H[id]? = some (.cells cs)) (h : cs ≠ [] ∨ (g.mu id).o ≤ (g.mu id).l) :
  g.ow (g.mu id).b = some id ∧ Blk w (g.mu id).b (g.mu id).l ∧ (g.mu id).o + cs.length ≤ (g.mu id).l ∧ (∀ o, g.ro (g.mu id).b o = none) ∧
   ∀ (k : Nat) c, cs[k]? = some c → ∃ v, w.cell? ⟨(g.mu id).b, (g.mu id).o + k, none⟩ = some v ∧ VR g H.length c v :=
 (hm.ent id _ he).resolve_left fun e => h.elim (fun h => h e.1) fun h => absurd e.2 (by omega)
theorem MR.push_none {g : Gh} {H : Mem} {w : World} (hm : MR g H w) :
  MR ({ g with mu := fun i => if i = H.length then ⟨0, 1, 0⟩ else g.mu i } : Gh) (H ++ [.cells []]) w ∧ Ev H.length g w ({ g with mu := fun i => if i = H.length then ⟨0, 1, 0⟩ else g.mu i } : Gh) w := by
 have hgle : Gle H.length g ({ g with mu := fun i => if i = H.length then ⟨0, 1, 0⟩ else g.mu i } : Gh) := ⟨fun _ _ _ h => h, fun id hid => by simp only; rw [if_neg (by omega)]⟩
 refine ⟨⟨hm.ro, fun id x hx => ?_, fun b id ho => ?_⟩, ⟨hgle, fun b _ ho => ⟨ho, rfl⟩, Nat.le_refl _, rfl, rfl, rfl⟩⟩
 ·rcases get_snoc hx with hx | ⟨rfl, rfl⟩
  ·exact (hm.ent id x hx).keep (lt_of_get hx) hgle (by simp) fun b ho => ⟨ho, fun _ => rfl, rfl⟩
  ·exact .inl ⟨rfl, by simp⟩
 ·have := hm.ow b id ho
  exact ⟨this.1, by simp; omega⟩
theorem MR.kill {g : Gh} {H : Mem} {w : World} (hm : MR g H w) (id : Nat) : MR g (H.set id .dead) w :=
 ⟨hm.ro, fun id' x hx => by
  rcases get_set hx with ⟨hne, hx⟩ | ⟨rfl, rfl, _⟩
  ·exact (hm.ent id' x hx).keep (lt_of_get hx) (.refl _ _) (by simp) fun b ho => ⟨ho, fun _ => rfl, rfl⟩
  ·trivial, fun b id' ho => by have := hm.ow b id' ho; exact ⟨this.1, by simpa using this.2⟩⟩
theorem MR.take {g : Gh} {H H' : Mem} {w : World} (hm : MR g (H ++ H') w) (hv : ∀ (id : Nat) e, H[id]? = some e → EntR g H.length w id e) :
  ∃ g', (∀ b, g.ow b = none → g'.ow b = none) ∧ g'.ro = g.ro ∧ g'.mu = g.mu ∧ MR g' H w := by
 refine ⟨{ g with ow := fun b => match g.ow b with | some id => if id < H.length then some id else none | none => none }, fun b hb => ?_, rfl, rfl, ⟨hm.ro, fun id e he => ?_, fun b id ho => ?_⟩⟩
 ·simp only [hb]
 ·have hid := lt_of_get he
  have h := hv id e he
  rcases h.own hid with hfr' | hown
  ·exact hfr' _ _ _ ⟨fun _ _ _ h => h, fun _ _ => rfl⟩
  ·refine EntR.keep (g := g) h hid ⟨fun _ _ _ h => h, fun _ _ => rfl⟩ (Nat.le_refl _) fun b hown => ⟨?_, fun _ => rfl, rfl⟩
   simp only [hown, if_pos hid]
 ·cases hb : g.ow b with
  | none => simp only [hb] at ho; cases ho
  | some id' =>
   simp only [hb] at ho
   by_cases hl : id' < H.length
   ·rw [if_pos hl] at ho; cases ho; exact ⟨(hm.ow b id hb).1, hl⟩
   ·rw [if_neg hl] at ho; cases ho
inductive Bd (n : Nat) : AV → Prop
 | any : Bd n .any
 | sc (v : Value) : Bd n (.sc v)
 | sl (z : Nat) (es : List (List PV)) (k : Tk) (h : ∀ t, k = .tk t → t < n) : Bd n (.sl z es k)
 | ag (cs : List AV) (h : ∀ (i : Nat) c, cs[i]? = some c → Bd n c) : Bd n (.ag cs)
 | tp (cs : List AV) (h : ∀ (i : Nat) c, cs[i]? = some c → Bd n c) : Bd n (.tp cs)
 | pt (id off : Nat) (h : id < n) : Bd n (.pt id off)
 | ep (cs : List PV) : Bd n (.ep cs)
 | hs (id off len mc s : Nat) (h : id < n) : Bd n (.hs id off len mc s)
 | mp (id : Nat) (h : id < n) : Bd n (.mp id)
 | fn (f : Fn) (fs cs : List AV) (hf : ∀ (i : Nat) c, fs[i]? = some c → Bd n c) (hc : ∀ (i : Nat) c, cs[i]? = some c → Bd n c) : Bd n (.fn f fs cs)
theorem VR.bd {g : Gh} {n : Nat} {a : AV} {v : Value} (h : VR g n a v) : Bd n a := by
 induction h with
 | any v => exact .any
 | sc v => exact .sc v
 | nil z k hk => exact .sl z [] k hk
 | sl z es k a cap f hsp hcap hz hrow hk => exact .sl z es k fun t e => by subst e; exact hk.1
 | ag cs vs hs _ ih => exact .ag cs ih
 | tp cs vs hs _ ih => exact .tp cs ih
 | pt id off hid => exact .pt id off hid
 | ep cs a f hsp hrow => exact .ep cs
 | hs id off len mc s cap hid hl hmc hcap => exact .hs id off len mc s hid
 | hn id off s a hid => exact .hs id off 0 0 s hid
 | mp id hid => exact .mp id hid
 | fn f fs cs vf vc h1 h2 _ _ i1 i2 => exact .fn f fs cs i1 i2
theorem VR.rebound {g : Gh} {n m : Nat} {a : AV} {v : Value} (h : VR g n a v) (hb : Bd m a) : VR g m a v := by
 induction h with
 | any v => exact .any v
 | sc v => exact .sc v
 | nil z k hk => cases hb with | sl _ _ _ h => exact .nil z k h
 | sl z es k a cap f hsp hcap hz hrow hk =>
  refine .sl z es k a cap f hsp hcap hz hrow ?_
  cases k with
  | no => trivial
  | ex => exact hk
  | tk t => cases hb with | sl _ _ _ h => exact ⟨h t rfl, hk.2⟩
 | ag cs vs hs _ ih => cases hb with | ag _ h => exact .ag cs vs hs fun i c hc => ih i c hc (h i c hc)
 | tp cs vs hs _ ih => cases hb with | tp _ h => exact .tp cs vs hs fun i c hc => ih i c hc (h i c hc)
 | pt id off hid => cases hb with | pt _ _ h => exact .pt id off h
 | ep cs a f hsp hrow => exact .ep cs a f hsp hrow
 | hs id off len mc s cap hid hl hmc hcap => cases hb with | hs _ _ _ _ _ h => exact .hs id off len mc s cap h hl hmc hcap
 | hn id off s a hid => cases hb with | hs _ _ _ _ _ h => exact .hn id off s a h
 | mp id hid => cases hb with | mp _ h => exact .mp id h
 | fn f fs cs vf vc h1 h2 _ _ i1 i2 => cases hb with | fn _ _ _ hf hc => exact .fn f fs cs vf vc h1 h2 (fun i c h => i1 i c h (hf i c h)) (fun i c h => i2 i c h (hc i c h))
inductive Tr.All (Q : AV → Prop) : Tr → Prop
 | av (a : AV) (h : Q a) : Tr.All Q (.av a)
 | hs (z len : Nat) (cs : List Tr) (h : ∀ (i : Nat) c, cs[i]? = some c → Tr.All Q c) : Tr.All Q (.hs z len cs)
 | sr (z : Nat) (es : List (List PV)) : Tr.All Q (.sr z es)
 | pt (cs : List Tr) (h : ∀ (i : Nat) c, cs[i]? = some c → Tr.All Q c) : Tr.All Q (.pt cs)
 | mp (es : List (Value × AV)) (h : ∀ k a, (k, a) ∈ es → Q a) : Tr.All Q (.mp es)
theorem Tr.All.mono {Q Q' : AV → Prop} (hq : ∀ a, Q a → Q' a) {t : Tr} (h : t.All Q) : t.All Q' := by
 induction h with
 | av a h => exact .av a (hq a h)
 | hs z len cs _ ih => exact .hs z len cs ih
 | sr z es => exact .sr z es
 | pt cs _ ih => exact .pt cs ih
 | mp es h => exact .mp es fun k a hi => hq a (h k a hi)
theorem TrR.bd {g : Gh} {n : Nat} {w : World} {ow : Nat → Option (List Nat)} {p : List Nat} {t : Tr} {v : Value} (h : TrR g n w ow p t v) : t.All (Bd n) := by
 induction h with
 | av p a v h => exact .av a h.bd
 | hs p z len cs b o l cap f ho hb hc hlen hl hro hv _ ih => exact .hs z len cs ih
 | hn p z a => exact .hs z 0 [] fun i c h => by simp at h
 | sr p z es a len cap hlen h hk => exact .sr z es
 | srn p z => exact .sr z []
 | pt p cs b o l f ho hb hl hro hv _ ih => exact .pt cs ih
 | mp p es b ents clock ho hro hb hm => exact .mp es fun k a hi => let ⟨_, _, _, hr⟩ := hm.get k a hi; hr.bd
theorem MapR.rebound {g : Gh} {n m : Nat} {es : List (Value × AV)} {ents : Array MapEntry} {clock : Nat} (hm : MapR g n es ents clock) (h : ∀ k a, (k, a) ∈ es → Am.Bd m a) : MapR g m es ents clock :=
 ⟨hm.st, hm.size, hm.keys, fun k a hi => let ⟨x, x1, x2, x3⟩ := hm.get k a hi; ⟨x, x1, x2, x3.rebound (h k a hi)⟩, hm.all⟩
theorem TrR.rebound {g : Gh} {n m : Nat} {w : World} {ow : Nat → Option (List Nat)} {p : List Nat} {t : Tr} {v : Value} (h : TrR g n w ow p t v) : t.All (Bd m) → TrR g m w ow p t v := by
 induction h with
 | av p a v h => intro hb; cases hb with | av _ hb => exact .av p a v (h.rebound hb)
 | hs p z len cs b o l cap f ho hb hc hlen hl hro hv _ ih => intro h2; cases h2 with | hs _ _ _ h2 => exact .hs p z len cs b o l cap f ho hb hc hlen hl hro hv fun k c hk => ih k c hk (h2 k c hk)
 | hn p z a => exact fun _ => .hn p z a
 | sr p z es a len cap hlen h hk => exact fun _ => .sr p z es a len cap hlen (h.rebound (.sl z es .no fun t e => by cases e)) hk
 | srn p z => exact fun _ => .srn p z
 | pt p cs b o l f ho hb hl hro hv _ ih => intro h2; cases h2 with | pt _ h2 => exact .pt p cs b o l f ho hb hl hro hv fun k c hk => ih k c hk (h2 k c hk)
 | mp p es b ents clock ho hro hb hm =>
  intro h2
  cases h2 with
  | mp _ h2 => exact .mp p es b ents clock ho hro hb (hm.rebound h2)
def Ent.Bd (n : Nat) : Ent → Prop
 | .dead | .tok | .lit _ => True
 | .cells cs => ∀ (i : Nat) c, cs[i]? = some c → Am.Bd n c
 | .map es | .mpi es _ _ => ∀ k a, (k, a) ∈ es → Am.Bd n a
 | .itr mid _ _ _ => mid < n
 | .tr cs => ∀ (i : Nat) c, cs[i]? = some c → c.All (Am.Bd n)
theorem EntR.bd {g : Gh} {n : Nat} {w : World} {id : Nat} {e : Ent} (h : EntR g n w id e) : e.Bd n := by
 cases e with
 | dead => trivial
 | tok => trivial
 | cells cs => exact fun i c hc => let ⟨_, _, hr⟩ := (h.resolve_left fun e => ne_nil_of_get hc e.1).2.2.2.2 i c hc; hr.bd
 | map es => exact fun k a hi => by obtain ⟨_, _, ents, clock, _, hm⟩ := h; obtain ⟨x, _, _, hr⟩ := hm.get k a hi; exact hr.bd
 | mpi es ents clock => exact fun k a hi => by obtain ⟨x, _, _, hr⟩ := h.2.2.2.get k a hi; exact hr.bd
 | itr mid since seen stepped => exact h.1
 | lit vs => trivial
 | tr cs =>
  intro i c hc
  obtain ⟨_, _, _, _, _, _, h5⟩ := h.resolve_left fun e => ne_nil_of_get hc e.1
  obtain ⟨_, _, hr⟩ := h5 i c hc
  exact hr.bd
theorem EntR.rebound {g : Gh} {n m : Nat} {w : World} {id : Nat} {e : Ent} (h : EntR g n w id e) (hb : e.Bd m) : EntR g m w id e := by
 cases e with
 | dead => trivial
 | tok => exact h
 | cells cs =>
  rcases h with h | ⟨h1, h2, h3, h4, h5⟩
  ·exact .inl h
  exact .inr ⟨h1, h2, h3, h4, fun k c hc => let ⟨v, hv, hr⟩ := h5 k c hc; ⟨v, hv, hr.rebound (hb k c hc)⟩⟩
 | map es =>
  obtain ⟨h1, h2, ents, clock, h3, h4⟩ := h
  exact ⟨h1, h2, ents, clock, h3, h4.rebound hb⟩
 | mpi es ents clock => exact ⟨h.1, h.2.1, h.2.2.1, h.2.2.2.rebound hb⟩
 | itr mid since seen stepped => exact ⟨hb, h.2⟩
 | lit vs => exact h
 | tr cs =>
  rcases h with h | ⟨ow, h0, h1, h2, h3, h4, h5⟩
  ·exact .inl h
  exact .inr ⟨ow, h0, h1, h2, h3, h4, fun k c hc => let ⟨v, hv, hr⟩ := h5 k c hc; ⟨v, hv, hr.rebound (hb k c hc)⟩⟩
theorem SR.trim {n : Nat} {g : Gh} {w : World} {R R' : AV → Mem → Prop} {v : Value} {w' : World} (s : SR n g w R v w')
  (h : ∀ r H', R r H' → ∃ H1 tl, H' = H1 ++ tl ∧ n ≤ H1.length ∧ (∀ (id : Nat) e, H1[id]? = some e → e.Bd H1.length) ∧ Am.Bd H1.length r ∧ R' r H1) : SR n g w R' v w' := by
 obtain ⟨r, H', g', k, hv, hm, he, hn⟩ := s
 obtain ⟨H1, tl, rfl, h1, h2, h3, h4⟩ := h r H' k
 obtain ⟨g2, a1, a2, a3, a4⟩ := hm.take (fun id e hid => (hm.ent id e (by rw [List.getElem?_append_left (lt_of_get hid)]; exact hid)).rebound (h2 id e hid))
 have hg : Gle H1.length g' g2 := ⟨fun b o v h => by rw [a2]; exact h, fun id _ => by rw [a3]⟩
 exact ⟨r, H1, g2, h4, (hv.rebound h3).mono hg (Nat.le_refl _), a4, ⟨he.gle.trans hg h1, fun b hb ho => ⟨a1 b (he.un b hb ho).1, (he.un b hb ho).2⟩, he.size, he.os, he.tape, he.output⟩, h1⟩
theorem SR.mono' {n : Nat} {g : Gh} {w : World} {R R' : AV → Mem → Prop} {v : Value} {w' : World} (s : SR n g w R v w')
  (h : ∀ r H' g' v, R r H' → VR g' H'.length r v → ∃ r', R' r' H' ∧ VR g' H'.length r' v) : SR n g w R' v w' := by
 obtain ⟨r, H', g', k, hv, hm, he, hn⟩ := s
 obtain ⟨r', k', hv'⟩ := h r H' g' v k hv
 exact ⟨r', H', g', k', hv', hm, he, hn⟩
theorem ACalls.pure {P : Program} {f : FuncId} {args : List AV} {H : Mem} {r0 : AV} (hb : Am.Bd H.length r0) (h : ACalls P f args H fun r H' => r = r0 ∧ ∃ tl, H' = H ++ tl) :
  ACalls P f args H fun r H' => r = r0 ∧ H' = H := by
 refine ⟨h.1, fun g w vals hm hs hv => (h.2 g w vals hm hs hv).mono ?_⟩
 rintro e w' ⟨v, he, s⟩
 refine ⟨v, he, s.trim ?_⟩
 rintro r H' ⟨rfl, tl, rfl⟩
 exact ⟨H, tl, rfl, Nat.le_refl _, fun id e he => (hm.ent id e he).bd, hb, rfl, rfl⟩
end Go.Proofs.YtaaamoicidfgcaaGreat.Am
namespace Go.Proofs.YtaaamoicidfgcaaGreat.Am
open Go
theorem sr_here {P : Program} {g : Gh} {H : Mem} {w : World} {K : AV → Mem → Prop} {r : AV} {v : Value} (hm : MR g H w) (hv : VR g H.length r v) (hk : K r H) :
  Ls P (SR H.length g w K) (.ok (.value v) w) := ⟨r, H, g, hk, hv, hm, .refl _ _ _, Nat.le_refl _⟩
def undefA : AV := .sc (.tuple #[])
def tinf (P : Program) (t : TypeId) : Option (Nat × Nat × Option Value) := (P.info? t).map fun i => (i.size, i.bytes, i.zero)
def aggT (P : Program) (t : TypeId) : Option Bool := (P.underlying t).map fun | .struct _ | .array _ _ => true | _ => false
theorem run_isAgg {P : Program} {t : TypeId} {b : Bool} (h : aggT P t = some b) (w : World) : (isAgg t).run P w = .ok b w := by
 unfold aggT at h
 cases hu : P.underlying t with
 | none => rw [hu] at h; cases h
 | some d =>
  rw [hu] at h
  simp only [Option.map_some, Option.some.injEq] at h
  subst h
  simp only [isAgg, Sem.run_bind, run_underlying hu, Result.andThen_ok]
  cases d <;> rfl
theorem tinf_info {P : Program} {t : TypeId} {s b : Nat} {z : Option Value} (h : tinf P t = some (s, b, z)) : ∃ i, P.info? t = some i ∧ i.size = s ∧ i.bytes = b ∧ i.zero = z := by
 unfold tinf at h
 cases hi : P.info? t with
 | none => rw [hi] at h; cases h
 | some i => rw [hi] at h; simp only [Option.map_some, Option.some.injEq, Prod.mk.injEq] at h; exact ⟨i, rfl, h.1, h.2.1, h.2.2⟩
theorem run_sizeOf {P : Program} {t : TypeId} {s b : Nat} {z : Option Value} (h : tinf P t = some (s, b, z)) (w : World) : (sizeOf t).run P w = .ok s w := by
 obtain ⟨i, hi, h1, _, _⟩ := tinf_info h
 simp [sizeOf, typeInfo, hi, h1]
theorem run_zeroValue {P : Program} {t : TypeId} {s b : Nat} {z : Value} (h : tinf P t = some (s, b, some z)) (w : World) : (zeroValue t).run P w = .ok z w := by
 obtain ⟨i, hi, _, _, h3⟩ := tinf_info h
 simp [zeroValue, typeInfo, hi, h3]
def AV.cells : AV → List AV
 | .ag cs => cs
 | a => [a]
def AV.flat : AV → Bool
 | .any => false
 | .sc (.agg _) => false
 | _ => true
def AV.cellish : AV → Bool
 | .any | .ag _ | .tp _ => false
 | .sc (.agg _) | .sc (.tuple _) => false
 | _ => true
theorem VR.cells {g : Gh} {n : Nat} {a : AV} {v : Value} (h : VR g n a v) (hf : a.flat = true) : VRs g n a.cells v.cells := by
 have one : ∀ (a : AV) (v : Value), VR g n a v → VRs g n [a] #[v] := fun a v h => ⟨rfl, fun i c hc => by
  cases i with
  | zero => simp at hc; subst hc; exact h
  | succ i => simp at hc⟩
 have h' := h
 cases h with
 | any v => cases hf
 | sc v => cases v <;> first | exact one _ _ h' | cases hf
 | nil z => exact one _ _ h'
 | sl z es k a cap f h1 h2 h3 h4 h5 => exact one _ _ h'
 | ag cs vs hs h => exact ⟨hs, h⟩
 | tp cs vs hs h => exact one _ _ h'
 | pt id off hid => exact one _ _ h'
 | ep cs a f h1 h2 => exact one _ _ h'
 | hs id off len mc s cap h1 h2 h3 h4 => exact one _ _ h'
 | hn id off s a h1 => exact one _ _ h'
 | mp id hid => exact one _ _ h'
 | fn f fs cs vf vc h1 h2 h3 h4 => exact one _ _ h'
theorem VR.cellish {g : Gh} {n : Nat} {a : AV} {v : Value} (h : VR g n a v) (hf : a.cellish = true) : v.oneCell' = true := by
 cases h with
 | sc v => cases v <;> first | rfl | cases hf
 | any v => cases hf
 | ag => cases hf
 | tp => cases hf
 | nil => rfl
 | sl => rfl
 | pt => rfl
 | ep => rfl
 | hs => rfl
 | hn => rfl
 | mp => rfl
 | fn => rfl
def setAt (cs : List AV) (k : Nat) : List AV → List AV
 | [] => cs
 | v :: vs => setAt (cs.set k v) (k + 1) vs
def updA (c : Array Value) (k : Nat) : List Value → Array Value
 | [] => c
 | v :: vs => updA (c.setIfInBounds k v) (k + 1) vs
theorem setAt_length (cs : List AV) (k : Nat) (vs : List AV) : (setAt cs k vs).length = cs.length := by
 induction vs generalizing cs k with
 | nil => rfl
 | cons v vs ih => simp only [setAt]; rw [ih]; simp
theorem updA_size (c : Array Value) (k : Nat) (vs : List Value) : (updA c k vs).size = c.size := by
 induction vs generalizing c k with
 | nil => rfl
 | cons v vs ih => simp only [updA]; rw [ih]; simp
theorem updA_lt (c : Array Value) (k : Nat) (vs : List Value) {i : Nat} (h : i < k) : (updA c k vs)[i]? = c[i]? := by
 induction vs generalizing c k with
 | nil => rfl
 | cons v vs ih => simp only [updA]; rw [ih _ _ (by omega), Array.getElem?_setIfInBounds_ne (by omega)]
theorem updA_ge (c : Array Value) (k : Nat) (vs : List Value) {i : Nat} (h : k + vs.length ≤ i) : (updA c k vs)[i]? = c[i]? := by
 induction vs generalizing c k with
 | nil => rfl
 | cons v vs ih => simp only [List.length_cons] at h; simp only [updA]; rw [ih _ _ (by omega), Array.getElem?_setIfInBounds_ne (by omega)]
theorem updA_in (c : Array Value) (k : Nat) (vs : List Value) {i : Nat} {v : Value} (hv : vs[i]? = some v) (hs : k + vs.length ≤ c.size) : (updA c k vs)[k + i]? = some v := by
 induction vs generalizing c k i with
 | nil => simp at hv
 | cons u vs ih =>
  simp only [List.length_cons] at hs
  simp only [updA]
  cases i with
  | zero =>
   simp at hv; subst hv
   show (updA (c.setIfInBounds k u) (k + 1) vs)[k]? = some u
   rw [updA_lt _ _ _ (by omega), Array.getElem?_setIfInBounds_self_of_lt (by omega)]
  | succ i =>
   simp only [List.getElem?_cons_succ] at hv
   rw [show k + (i + 1) = k + 1 + i from by omega]
   exact ih _ _ hv (by simp; omega)
theorem setAt_lt (cs : List AV) (k : Nat) (vs : List AV) {i : Nat} (h : i < k) : (setAt cs k vs)[i]? = cs[i]? := by
 induction vs generalizing cs k with
 | nil => rfl
 | cons v vs ih => simp only [setAt]; rw [ih _ _ (by omega), List.getElem?_set_ne (by omega)]
theorem setAt_ge (cs : List AV) (k : Nat) (vs : List AV) {i : Nat} (h : k + vs.length ≤ i) : (setAt cs k vs)[i]? = cs[i]? := by
 induction vs generalizing cs k with
 | nil => rfl
 | cons v vs ih => simp only [List.length_cons] at h; simp only [setAt]; rw [ih _ _ (by omega), List.getElem?_set_ne (by omega)]
theorem setAt_in (cs : List AV) (k : Nat) (vs : List AV) {i : Nat} (hi : i < vs.length) (hs : k + vs.length ≤ cs.length) : (setAt cs k vs)[k + i]? = vs[i]? := by
 induction vs generalizing cs k i with
 | nil => simp at hi
 | cons u vs ih =>
  simp only [List.length_cons] at hs hi
  simp only [setAt]
  cases i with
  | zero => rw [setAt_lt _ _ _ (by omega), Nat.add_zero, List.getElem?_set_self (by omega)]; rfl
  | succ i =>
   rw [show k + (i + 1) = k + 1 + i from by omega, ih _ _ (by omega) (by simp; omega)]
   rfl
theorem setAt_rel {g : Gh} {n m : Nat} {cs vs : List AV} {c : Array Value} {ws : List Value} {k : Nat} (hc : ∀ (i : Nat) a, cs[i]? = some a → ∃ v, c[m + i]? = some v ∧ VR g n a v)
  (hw : VRs g n vs ws.toArray) (hk : k + vs.length ≤ cs.length) (hcs : m + cs.length ≤ c.size) :
  ∀ (i : Nat) a, (setAt cs k vs)[i]? = some a → ∃ v, (updA c (m + k) ws)[m + i]? = some v ∧ VR g n a v := by
 have hlen : ws.length = vs.length := by have := hw.1; simpa using this
 intro i a ha
 rcases Nat.lt_or_ge i k with h | h
 ·rw [setAt_lt _ _ _ h] at ha
  rw [updA_lt _ _ _ (by omega)]
  exact hc i a ha
 ·rcases Nat.lt_or_ge i (k + vs.length) with h2 | h2
  ·obtain ⟨j, rfl⟩ : ∃ j, i = k + j := ⟨i - k, by omega⟩
   rw [setAt_in _ _ _ (by omega) hk] at ha
   obtain ⟨v, h3, h4⟩ := hw.get ha
   refine ⟨v, ?_, h4⟩
   rw [← Nat.add_assoc]
   exact updA_in _ _ _ (by simpa using h3) (by omega)
  ·rw [setAt_ge _ _ _ h2] at ha
   rw [updA_ge _ _ _ (by omega)]
   exact hc i a ha
theorem modify_eq {α : Type} (arr : Array α) (i : Nat) (f : α → α) (x : α) (h : arr[i]? = some x) : arr.modify i f = arr.setIfInBounds i (f x) := by
 apply Array.ext'
 apply List.ext_getElem?
 intro j
 simp only [Array.getElem?_toList]
 rw [Array.getElem?_modify]
 by_cases e : i = j
 ·subst e
  rw [if_pos rfl, h, Array.getElem?_setIfInBounds_self_of_lt (alt_of_get h)]; rfl
 ·rw [if_neg e, Array.getElem?_setIfInBounds_ne e]
theorem set_same {α : Type} (arr : Array α) (i : Nat) (x : α) (h : arr[i]? = some x) : arr.setIfInBounds i x = arr := by
 apply Array.ext'
 apply List.ext_getElem?
 intro j
 simp only [Array.getElem?_toList]
 by_cases e : i = j
 ·subst e; rw [Array.getElem?_setIfInBounds_self_of_lt (alt_of_get h), h]
 ·rw [Array.getElem?_setIfInBounds_ne e]
theorem run_storeCells {P : Program} (e : TypeId) (fr : Nat × Nat) (a : Addr) (hsp : a.spot = none) : ∀ (vs : List Value) (i : Nat) (w : World) (c : Array Value), w.heap[a.block]? = some (.cells c e fr) →
  (∀ v, v ∈ vs → v.oneCell' = true) → a.off + i + vs.length ≤ c.size → (∀ o, a.off + i ≤ o → o < a.off + i + vs.length → (decide (fr.1 ≤ o) && decide (o < fr.2)) = false) →
  ∃ w1, (storeCells a vs i).run P w = .ok () w1 ∧ Upd w w1 a.block (.cells (updA c (a.off + i) vs) e fr)
 | [], i, w, c, hb, _, _, _ => ⟨w, rfl, by simp only [updA]; exact (set_same _ _ _ hb).symm, rfl, rfl, rfl⟩
 | v :: vs, i, w, c, hb, hv, hs, hfr => by
  simp only [List.length_cons] at hs hfr
  have hadd : a.add i = ⟨a.block, a.off + i, none⟩ := by
   unfold Addr.add
   split
   ·rename_i h0; subst h0; cases a; simp at hsp; subst hsp; rfl
   ·rfl
  have hcell : w.cell? (a.add i) = some (c[a.off + i]'(by omega)) := by
   rw [hadd]; unfold World.cell?; simp only [hb]
   rw [if_neg (by simp), Array.getElem?_eq_getElem (by omega)]
  have hfz : w.frozen? (a.add i) = false := by
   rw [hadd]; unfold World.frozen?; simp only [hb]
   exact hfr _ (by omega) (by omega)
  have hset : (w.setCell (a.add i) v).heap = w.heap.setIfInBounds a.block (.cells (c.setIfInBounds (a.off + i) v) e fr) := by
   rw [hadd]; unfold World.setCell
   simp only
   rw [modify_eq _ _ _ _ hb]; rfl
  have hb1 : (w.setCell (a.add i) v).heap[a.block]? = some (.cells (c.setIfInBounds (a.off + i) v) e fr) := by
   rw [hset, Array.getElem?_setIfInBounds_self_of_lt (alt_of_get hb)]
  obtain ⟨w1, h1, h2⟩ := run_storeCells (P := P) e fr a hsp vs (i + 1) (w.setCell (a.add i) v) _ hb1 (fun u hu => hv u (List.mem_cons_of_mem _ hu)) (by simp; omega) (fun o h3 h4 => hfr o (by omega) (by omega))
  refine ⟨w1, ?_, ?_, ?_, ?_, ?_⟩
  ·simp only [storeCells, Sem.run_bind, run_store P w _ v .plain (hv v List.mem_cons_self), hcell, hfz, Bool.false_eq_true, if_false, Result.andThen_ok]
   exact h1
  ·rw [h2.heap, hset, Array.setIfInBounds_setIfInBounds]; rfl
  ·rw [h2.os]; rfl
  ·rw [h2.tape]; rfl
  ·rw [h2.output]; rfl
section
variable {P : Program} {fr : Frm} {H : Mem} {K : AV → Mem → Prop} {dst : Option Nat} {ty : TypeId} {pos : String} {after : Array Edge} {guard : Option (Nat × Bool)}
theorem opS_move {x : Operand} (h : K (aev fr x) H) : OpS P ⟨dst, .move x, ty, pos, after, guard⟩ fr H K := fun _ _ ev hop hm => by
 have hx := hop x (by simp [Op.operands])
 simp only [execOp]
 exact sr_here hm hx h
theorem opS_assign {x : Operand} (h : K (aev fr x) H) : OpS P ⟨dst, .assign x, ty, pos, after, guard⟩ fr H K := fun _ _ ev hop hm => by
 have hx := hop x (by simp [Op.operands])
 simp only [execOp]
 exact sr_here hm hx h
theorem opS_pick {c x y : Operand} {b : Bool} (hc : aev fr c = .sc (.bool b)) (h : K (if b then aev fr x else aev fr y) H) : OpS P ⟨dst, .pick c x y, ty, pos, after, guard⟩ fr H K := fun _ w ev hop hm => by
 have h1 := hop c (by simp [Op.operands])
 have h2 := hop x (by simp [Op.operands])
 have h3 := hop y (by simp [Op.operands])
 rw [hc] at h1
 have e := VR_sc h1
 cases b
 ·have : (execOp ev ⟨dst, .pick c x y, ty, pos, after, guard⟩).run P w = .ok (.value (ev y)) w := by simp [execOp, asBool, e]
  rw [this]; exact sr_here hm h3 h
 ·have : (execOp ev ⟨dst, .pick c x y, ty, pos, after, guard⟩).run P w = .ok (.value (ev x)) w := by simp [execOp, asBool, e]
  rw [this]; exact sr_here hm h2 h
theorem new_cells {g : Gh} {w : World} (hm : MR g H w) {c : Array Value} {e : TypeId} {acs : List AV} (hv : VRs g H.length acs c) (h : K (.pt H.length 0) (H ++ [.cells acs])) :
  Ls P (SR H.length g w K) (.ok (.value (.pointer (some ⟨w.heap.size, 0, none⟩))) (w.alloc (.cells c e))) := by
 have hp : Push w (w.alloc (.cells c e)) c e (0, 0) := ⟨rfl, rfl, rfl, rfl⟩
 obtain ⟨h1, h2⟩ := hm.push_cells hp (fun o _ => by simp) (Nat.le_of_eq hv.1.symm) (fun i a ha => hv.get ha)
 refine ⟨_, _, _, h, ?_, h1, h2, by simp⟩
 have := VR.pt (g := g.addE H.length ⟨w.heap.size, 0, c.size⟩) (n := (H ++ [Ent.cells acs]).length) H.length 0 (by simp)
 simpa [Gh.addE] using this
def zeroCs (z : Value) : List AV := z.cells.toList.map AV.sc
theorem VRs_zero {g : Gh} {n : Nat} (z : Value) : VRs g n (zeroCs z) z.cells := by
 refine ⟨by simp [zeroCs], fun i a ha => ?_⟩
 unfold zeroCs at ha
 rw [List.getElem?_map] at ha
 cases hx : z.cells.toList[i]? with
 | none => rw [hx] at ha; cases ha
 | some v =>
  rw [hx] at ha
  simp only [Option.map_some, Option.some.injEq] at ha
  subst ha
  rw [Array.getElem?_toList] at hx
  rw [Array.getD_eq_getD_getElem?, hx]
  exact .sc v
theorem opS_alloc {t : TypeId} {s b : Nat} {z : Value} (ht : tinf P t = some (s, b, some z)) (h : K (.pt H.length 0) (H ++ [.cells (zeroCs z)])) : OpS P ⟨dst, .alloc t, ty, pos, after, guard⟩ fr H K := fun _ w ev _ hm => by
 have : (execOp ev ⟨dst, .alloc t, ty, pos, after, guard⟩).run P w = .ok (.value (.pointer (some ⟨w.heap.size, 0, none⟩))) (w.alloc (.cells z.cells t)) := by
  simp only [execOp, Instr.alloc, Sem.run_bind, run_zeroValue ht, Result.andThen_ok, newVar, newRow, run_newObj]; rfl
 rw [this]
 exact new_cells hm (VRs_zero z) h
theorem opS_box {t : TypeId} {x : Operand} (hf : (aev fr x).flat = true) (h : K (.pt H.length 0) (H ++ [.cells (aev fr x).cells])) : OpS P ⟨dst, .box t x, ty, pos, after, guard⟩ fr H K := fun _ w ev hop hm => by
 have hx := hop x (by simp [Op.operands])
 have : (execOp ev ⟨dst, .box t x, ty, pos, after, guard⟩).run P w = .ok (.value (.pointer (some ⟨w.heap.size, 0, none⟩))) (w.alloc (.cells (ev x).cells t)) := by
  simp only [execOp, Instr.box, Sem.run_bind, newVar, newRow, run_newObj]; rfl
 rw [this]
 exact new_cells hm (hx.cells hf) h
def aLoad (P : Program) (t : TypeId) (a : AV) (H : Mem) (K : AV → Mem → Prop) : Prop :=
 match aggT P t, tinf P t with
 | some false, some _ =>
  match a with
  | .pt id off => (match H[id]? with | some (.cells cs) => (match cs[off]? with | some c => K c H | none => False) | _ => False)
  | .ep (p :: _) => K p.av H
  | _ => False
 | some true, some (sz, _, _) =>
  match a with
  | .pt id off => (match H[id]? with | some (.cells cs) => off + sz ≤ cs.length ∧ K (.ag ((cs.drop off).take sz)) H | _ => False)
  | .ep cs => sz ≤ cs.length ∧ K (.ag ((cs.take sz).map PV.av)) H
  | _ => False
 | _, _ => False
theorem add_plain {a : Addr} (h : a.spot = none) (n : Nat) : a.add n = ⟨a.block, a.off + n, none⟩ := by
 unfold Addr.add
 split
 ·rename_i h0; subst h0; cases a; simp at h; subst h; rfl
 ·rfl
theorem run_loadAgg {t : TypeId} {sz b : Nat} {z : Option Value} (ha : aggT P t = some true) (ht : tinf P t = some (sz, b, z)) {w : World} {a : Addr} {f : Nat → Value}
  (hc : ∀ j, j < sz → w.cell? (a.add j) = some (f j)) : (loadVar t a).run P w = .ok (.agg ((List.range sz).map f).toArray) w := by
 simp only [loadVar, Sem.run_bind, run_isAgg ha, Result.andThen_ok, if_true, run_sizeOf ht, run_loadCells w a sz f hc, Sem.run_pure]
theorem run_loadOne {t : TypeId} (ha : aggT P t = some false) {w : World} {a : Addr} {v : Value} (hc : w.cell? a = some v) : (loadVar t a).run P w = .ok v w := by
 simp only [loadVar, Sem.run_bind, run_isAgg ha, Result.andThen_ok, Bool.false_eq_true, if_false, run_load, hc]
theorem loadVar_sound {g : Gh} {w : World} {t : TypeId} {a : AV} {v : Value} (hm : MR g H w) (hv : VR g H.length a v) (h : aLoad P t a H K) :
  ∃ ad, v = .pointer (some ad) ∧ ∃ u, (loadVar t ad).run P w = .ok u w ∧ ∃ r, K r H ∧ VR g H.length r u := by
 unfold aLoad at h
 cases hag : aggT P t with
 | none => rw [hag] at h; exact h.elim
 | some ag =>
  cases hti : tinf P t with
  | none => rw [hag, hti] at h; cases ag <;> exact h.elim
  | some x =>
   obtain ⟨sz, by_, z⟩ := x
   rw [hag, hti] at h
   cases ag with
   | false =>
    cases hv with
    | pt id off hid =>
     simp only at h
     cases he : H[id]? with
     | none => rw [he] at h; exact h.elim
     | some e =>
      rw [he] at h
      cases e with
      | cells cs =>
       simp only at h
       cases hc : cs[off]? with
       | none => rw [hc] at h; exact h.elim
       | some c =>
        rw [hc] at h
        obtain ⟨u, h1, h2⟩ := hm.cellAt he off c hc
        exact ⟨_, rfl, u, run_loadOne hag h1, c, h, h2⟩
      | _ => exact h.elim
    | ep cs ad f hsp hrow =>
     cases cs with
     | nil => exact h.elim
     | cons p ps =>
      have := hrow 0 p rfl
      refine ⟨ad, rfl, f 0, run_loadOne hag ?_, p.av, h, VR.of_PR this.2⟩
      have h2 := hm.ro _ _ _ this.1
      rw [← h2]; cases ad; simp at hsp; subst hsp; rfl
    | _ => exact h.elim
   | true =>
    cases hv with
    | pt id off hid =>
     simp only at h
     cases he : H[id]? with
     | none => rw [he] at h; exact h.elim
     | some e =>
      rw [he] at h
      cases e with
      | cells cs =>
       simp only at h
       obtain ⟨hl, hk⟩ := h
       have hent := hm.cellAt he
       have hcell : ∀ j, j < sz → ∃ v, w.cell? ⟨(g.mu id).b, (g.mu id).o + (off + j), none⟩ = some v ∧ VR g H.length (cs.getD (off + j) .any) v := fun j hj => by
        obtain ⟨v, h1, h2⟩ := hent (off + j) (cs[off + j]'(by omega)) (List.getElem?_eq_getElem (by omega))
        exact ⟨v, h1, by simpa [List.getD, List.getElem?_eq_getElem (show off + j < cs.length by omega)] using h2⟩
       let f : Nat → Value := fun j => if hj : j < sz then Classical.choose (hcell j hj) else undef
       have hf : ∀ j (hj : j < sz), w.cell? ⟨(g.mu id).b, (g.mu id).o + (off + j), none⟩ = some (f j) ∧ VR g H.length (cs.getD (off + j) .any) (f j) := fun j hj => by
        simp only [f]; rw [dif_pos hj]; exact Classical.choose_spec (hcell j hj)
       refine ⟨_, rfl, _, run_loadAgg hag hti (f := f) (fun j hj => ?_), _, hk, .ag _ _ (by simp; omega) (fun i c hc => ?_)⟩
       ·rw [add_plain rfl]; simp only; rw [Nat.add_assoc]; exact (hf j hj).1
       ·have hi : i < sz := by have := lt_of_get hc; simp at this; omega
        have := (hf i hi).2
        rw [List.getElem?_take_of_lt hi, List.getElem?_drop] at hc
        simp only [List.getD, hc, Option.getD_some] at this
        simpa [Array.getD_eq_getD_getElem?, hi] using this
      | _ => exact h.elim
    | ep cs ad f hsp hrow =>
     obtain ⟨hl, hk⟩ := h
     refine ⟨ad, rfl, _, run_loadAgg hag hti (f := f) (fun j hj => ?_), _, hk, .ag _ _ (by simp; omega) (fun i c hc => ?_)⟩
     ·rw [add_plain hsp]
      exact hm.ro _ _ _ (hrow j (cs[j]'(by omega)) (List.getElem?_eq_getElem (by omega))).1
     ·have hi : i < sz := by have := lt_of_get hc; simp at this; omega
      rw [List.getElem?_map, List.getElem?_take_of_lt hi, List.getElem?_eq_getElem (show i < cs.length by omega)] at hc
      simp only [Option.map_some, Option.some.injEq] at hc
      subst hc
      have := VR.of_PR (n := H.length) (hrow i _ (List.getElem?_eq_getElem (show i < cs.length by omega))).2
      simpa [Array.getD_eq_getD_getElem?, hi] using this
    | _ => exact h.elim
theorem opS_load {t : TypeId} {x : Operand} (h : aLoad P t (aev fr x) H K) : OpS P ⟨dst, .load t x, ty, pos, after, guard⟩ fr H K := fun g w ev hop hm => by
 have hx := hop x (by simp [Op.operands])
 obtain ⟨ad, e, u, hr, r, hk, hv⟩ := loadVar_sound hm hx h
 have : (execOp ev ⟨dst, .load t x, ty, pos, after, guard⟩).run P w = .ok (.value u) w := by
  simp only [execOp, Instr.loadAt, e, Instr.sureAddr, Sem.run_bind, Sem.run_pure, Result.andThen_ok, hr]
 rw [this]
 exact sr_here hm hv hk
def aStore (P : Program) (t : TypeId) (a v : AV) (H : Mem) (K : AV → Mem → Prop) : Prop :=
 match tinf P t with
 | some (sz, _, _) =>
  (match a with
  | .pt id off => (match H[id]? with
   | some (.cells cs) => sz ≠ 0 ∧ v.flat = true ∧ v.cells.length = sz ∧ v.cells.all AV.cellish = true ∧ off + sz ≤ cs.length ∧ K undefA (H.set id (.cells (setAt cs off v.cells)))
   | _ => False)
  | _ => False)
 | none => False
theorem oneCells {g : Gh} {n : Nat} {acs : List AV} {c : Array Value} (h : VRs g n acs c) (ha : acs.all AV.cellish = true) : ∀ v, v ∈ c.toList → v.oneCell' = true := by
 intro v hv
 obtain ⟨i, hi⟩ := List.getElem?_of_mem hv
 rw [Array.getElem?_toList] at hi
 have hl := alt_of_get hi
 have hs := h.1
 have hx := h.2 i (acs[i]'(by omega)) (List.getElem?_eq_getElem (by omega))
 rw [Array.getD_eq_getD_getElem?, hi] at hx
 exact hx.cellish (List.all_eq_true.1 ha _ (List.getElem_mem _))
theorem opS_store {t : TypeId} {x y : Operand} (h : aStore P t (aev fr x) (aev fr y) H K) : OpS P ⟨dst, .store t x y, ty, pos, after, guard⟩ fr H K := fun g w ev hop hm => by
 have hx := hop x (by simp [Op.operands])
 have hy := hop y (by simp [Op.operands])
 unfold aStore at h
 cases hti : tinf P t with
 | none => rw [hti] at h; exact h.elim
 | some q =>
  obtain ⟨sz, by_, z⟩ := q
  rw [hti] at h
  generalize haev : aev fr x = ax at *
  generalize aev fr y = ay at *
  cases ax with
  | pt id off =>
   simp only at h
   cases he : H[id]? with
   | none => rw [he] at h; exact h.elim
   | some e =>
    rw [he] at h
    cases e with
    | cells cs =>
     obtain ⟨hsz0, hf, hlen, hcel, hoff, hk⟩ := h
     have hne0 : cs ≠ [] := fun e => by rw [e] at hoff; simp at hoff; omega
     have hcells := hy.cells hf
     have hsz : (ev y).cells.size = sz := hcells.1.trans hlen
     obtain ⟨h1, h2, h3, h4, h5⟩ := hm.owned he (.inl hne0)
     obtain ⟨c, el, frz, hb, hl, hfr⟩ := h2
     generalize hvx : ev x = vx at *
     cases hx with
     | pt _ _ hid =>
      have hlist : (ev y).cells.toList.length = sz := by simpa using hsz
      obtain ⟨w1, hr, hu⟩ := run_storeCells (P := P) el frz ⟨(g.mu id).b, (g.mu id).o + off, none⟩ rfl (ev y).cells.toList 0 w c hb (oneCells hcells hcel) (by simp only [hlist]; omega) (fun o a1 a2 => hfr o (by simp only [hlist] at a2; omega))
      have : (execOp ev ⟨dst, .store t x y, ty, pos, after, guard⟩).run P w = .ok .skip w1 := by
       simp only [execOp, Instr.storeAt, hvx, Instr.sureAddr, Sem.run_bind, Sem.run_pure, Result.andThen_ok, storeVar, run_sizeOf hti, hsz, ne_eq, not_true_eq_false, if_false, Sem.run_ite, hr]
      rw [this]
      obtain ⟨m1, m2⟩ := hm.put (cs' := setAt cs off ay.cells) he hne0 hb hu (updA_size _ _ _) (setAt_length _ _ _) (by
       simp only [Nat.add_zero]
       exact setAt_rel (m := (g.mu id).o) (fun i a ha => by
        obtain ⟨v, q1, q2⟩ := h5 i a ha
        refine ⟨v, ?_, q2⟩
        unfold World.cell? at q1; simp only [hb] at q1; rw [if_neg (by simp)] at q1; exact q1) (by simpa using hcells) (by omega) (by omega))
      exact ⟨_, _, g, hk, .sc _, m1, m2, by simp⟩
    | _ => exact h.elim
  | _ => exact h.elim
end
end Go.Proofs.YtaaamoicidfgcaaGreat.Am
namespace Go.Proofs.YtaaamoicidfgcaaGreat.Am
open Go
section
variable {P : Program} {fr : Frm} {H : Mem} {K : AV → Mem → Prop} {dst : Option Nat} {ty : TypeId} {pos : String} {after : Array Edge} {guard : Option (Nat × Bool)}
theorem Row.drop {ro : Nat → Nat → Option Value} {b o : Nat} {ps : List PV} {f : Nat → Value} (h : Row ro b o ps f) (k : Nat) : Row ro b (o + k) (ps.drop k) (fun j => f (k + j)) := fun j p hj => by
 rw [List.getElem?_drop] at hj
 have := h _ _ hj
 rw [Nat.add_assoc]; exact this
theorem Row.take {ro : Nat → Nat → Option Value} {b o : Nat} {ps : List PV} {f : Nat → Value} (h : Row ro b o ps f) (k : Nat) : Row ro b o (ps.take k) f := fun j p hj => by
 have hl := lt_of_get hj
 simp at hl
 rw [List.getElem?_take_of_lt (by omega)] at hj
 exact h j p hj
theorem flatten_length {α : Type} {es : List (List α)} {z : Nat} (h : ∀ e, e ∈ es → e.length = z) : es.flatten.length = es.length * z := by
 induction es with
 | nil => simp
 | cons e es ih =>
  rw [List.flatten_cons, List.length_append, ih (fun x hx => h x (List.mem_cons_of_mem _ hx)), h e List.mem_cons_self, List.length_cons, Nat.succ_mul]
  omega
theorem flatten_drop {α : Type} {es : List (List α)} {z : Nat} (h : ∀ e, e ∈ es → e.length = z) (k : Nat) : (es.drop k).flatten = es.flatten.drop (k * z) := by
 induction es generalizing k with
 | nil => simp
 | cons e es ih =>
  cases k with
  | zero => simp
  | succ k =>
   have he := h e List.mem_cons_self
   rw [List.drop_succ_cons, ih (fun x hx => h x (List.mem_cons_of_mem _ hx)), List.flatten_cons, Nat.succ_mul, Nat.add_comm (k * z) z, ← he, List.drop_length_add_append]
theorem flatten_take {α : Type} {es : List (List α)} {z : Nat} (h : ∀ e, e ∈ es → e.length = z) (k : Nat) : (es.take k).flatten = es.flatten.take (k * z) := by
 induction es generalizing k with
 | nil => simp
 | cons e es ih =>
  cases k with
  | zero => simp
  | succ k =>
   have he := h e List.mem_cons_self
   rw [List.take_succ_cons, List.flatten_cons, ih (fun x hx => h x (List.mem_cons_of_mem _ hx)), List.flatten_cons, Nat.succ_mul, Nat.add_comm (k * z) z, ← he, List.take_length_add_append]
theorem flatten_at {α : Type} {es : List (List α)} {z : Nat} (h : ∀ e, e ∈ es → e.length = z) {i : Nat} {e : List α} (hi : es[i]? = some e) : e = (es.flatten.drop (i * z)).take z := by
 have hl := lt_of_get hi
 have : es.drop i = e :: es.drop (i + 1) := by
  rw [List.drop_eq_getElem_cons hl]
  rw [List.getElem?_eq_getElem hl] at hi
  simp at hi
  rw [hi]
 rw [← flatten_drop h, this, List.flatten_cons, List.take_append_of_le_length (by rw [h e (List.mem_of_getElem? hi)]; omega), List.take_of_length_le (by rw [h e (List.mem_of_getElem? hi)]; omega)]
def aFieldAddr (P : Program) (s : TypeId) (a : AV) (i : Nat) (H : Mem) (K : AV → Mem → Prop) : Prop :=
 match P.underlying s with
 | some (.struct fs) =>
  (match fs[i]? with
  | some f =>
   (match tinf P f.type with
   | some (sz, _, _) => sz ≠ 0 ∧ (match a with
    | .pt id off => K (.pt id (off + f.offset)) H
    | .ep cs => K (.ep (cs.drop f.offset)) H
    | _ => False)
   | none => False)
  | none => False)
 | _ => False
theorem opS_fieldAddr {s : TypeId} {x : Operand} {i : Nat} (h : aFieldAddr P s (aev fr x) i H K) : OpS P ⟨dst, .fieldAddr s x i, ty, pos, after, guard⟩ fr H K := fun g w ev hop hm => by
 have hx := hop x (by simp [Op.operands])
 unfold aFieldAddr at h
 split at h
 ·rename_i fs hs
  cases hf : fs[i]? with
  | none => rw [hf] at h; exact h.elim
  | some f =>
   rw [hf] at h
   cases hti : tinf P f.type with
   | none => simp only [hti] at h
   | some q =>
    obtain ⟨sz, by_, z⟩ := q
    simp only [hti] at h
    obtain ⟨hz, h⟩ := h
    have run : ∀ ad : Addr, ev x = .pointer (some ad) → ad.spot = none → (execOp ev ⟨dst, .fieldAddr s x i, ty, pos, after, guard⟩).run P w = .ok (.value (.pointer (some ⟨ad.block, ad.off + f.offset, none⟩))) w := fun ad e hsp => by
     simp only [execOp, Instr.fieldAt, Sem.run_bind, run_underlying hs, Result.andThen_ok, hf, e, Instr.sureAddr, Sem.run_pure, fieldPlace, run_sizeOf hti, hz, if_false, Sem.run_ite]
     rw [add_plain hsp]
    generalize aev fr x = ax at *
    generalize hvx : ev x = vx at *
    cases hx with
    | pt id off hid =>
     rw [run _ rfl rfl]
     refine sr_here hm ?_ h
     have := VR.pt (g := g) id (off + f.offset) hid
     rw [← Nat.add_assoc] at this
     exact this
    | ep cs ad ff hsp hrow =>
     rw [run _ rfl hsp]
     exact sr_here hm (.ep _ ⟨ad.block, ad.off + f.offset, none⟩ _ rfl (hrow.drop f.offset)) h
    | _ => exact h.elim
 ·exact h.elim
def aPart (P : Program) (t : TypeId) (cs : List AV) (off : Nat) (K : AV → Prop) : Prop :=
 match aggT P t, tinf P t with
 | some false, some _ => (match cs[off]? with | some c => K c | none => False)
 | some true, some (sz, _, _) => off + sz ≤ cs.length ∧ K (.ag ((cs.drop off).take sz))
 | _, _ => False
theorem run_part {t : TypeId} {cs : List AV} {off : Nat} {k : AV → Prop} (h : aPart P t cs off k) {g : Gh} {n : Nat} {vs : Array Value} (hs : vs.size = cs.length) (hv : ∀ (i : Nat) c, cs[i]? = some c → VR g n c (vs.getD i undef)) (w : World) :
  ∃ u, (part t vs off).run P w = .ok u w ∧ ∃ r, k r ∧ VR g n r u := by
 have hvs : VRs g n cs vs := ⟨hs, hv⟩
 unfold aPart at h
 cases hag : aggT P t with
 | none => rw [hag] at h; exact h.elim
 | some ag =>
  cases hti : tinf P t with
  | none => rw [hag, hti] at h; cases ag <;> exact h.elim
  | some q =>
   obtain ⟨sz, by_, z⟩ := q
   rw [hag, hti] at h
   cases ag with
   | false =>
    simp only at h
    cases hc : cs[off]? with
    | none => rw [hc] at h; exact h.elim
    | some c =>
     rw [hc] at h
     obtain ⟨u, h1, h2⟩ := hvs.get hc
     exact ⟨u, by simp only [part, Sem.run_bind, run_isAgg hag, Result.andThen_ok, Bool.false_eq_true, if_false, h1, Sem.run_pure], c, h, h2⟩
   | true =>
    obtain ⟨hl, hk⟩ := h
    refine ⟨.agg (vs.extract off (off + sz)), by simp only [part, Sem.run_bind, run_isAgg hag, Result.andThen_ok, if_true, run_sizeOf hti, Sem.run_pure], _, hk, .ag _ _ (by simp; omega) fun i c hc => ?_⟩
    have hi : i < sz := by have := lt_of_get hc; simp at this; omega
    rw [List.getElem?_take_of_lt hi, List.getElem?_drop] at hc
    have := hv _ _ hc
    rw [Array.getD_eq_getD_getElem?] at this ⊢
    rw [Array.getElem?_extract_of_lt (by omega)]
    have hl2 : off + i < vs.size := by omega
    rw [Array.getElem?_eq_getElem hl2] at this
    exact this
def aField (P : Program) (t : TypeId) (a : AV) (i : Nat) (H : Mem) (K : AV → Mem → Prop) : Prop :=
 match P.underlying t with
 | some (.struct fs) =>
  (match fs[i]? with
  | some f => (match a with | .ag cs => aPart P f.type cs f.offset fun r => K r H | _ => False)
  | none => False)
 | _ => False
theorem opS_field {t : TypeId} {x : Operand} {i : Nat} (h : aField P t (aev fr x) i H K) : OpS P ⟨dst, .field t x i, ty, pos, after, guard⟩ fr H K := fun g w ev hop hm => by
 have hx := hop x (by simp [Op.operands])
 unfold aField at h
 split at h
 ·rename_i fs hs
  cases hf : fs[i]? with
  | none => rw [hf] at h; exact h.elim
  | some f =>
   rw [hf] at h
   generalize aev fr x = ax at *
   generalize hvx : ev x = vx at *
   cases hx with
   | ag cs vs hsz hv =>
    obtain ⟨u, h1, r, h2, h3⟩ := run_part h hsz hv w
    have : (execOp ev ⟨dst, .field t x i, ty, pos, after, guard⟩).run P w = .ok (.value u) w := by
     simp only [execOp, Instr.field, Sem.run_bind, run_underlying hs, Result.andThen_ok, hf, hvx, asAgg, Sem.run_pure, h1]
    rw [this]
    exact sr_here hm h3 h2
   | _ => exact h.elim
 ·exact h.elim
def aIndexAddr (P : Program) (t : TypeId) (a i : AV) (H : Mem) (K : AV → Mem → Prop) : Prop :=
 match P.underlying t, i with
 | some (.slice e), .sc (.int _ i) =>
  (match tinf P e with
  | some (sz, _, _) =>
   (match a with
   | .sl z es _ => z = sz ∧ 0 ≤ i ∧ (match es[i.toNat]? with | some e => K (.ep e) H | none => False)
   | .hs id off len _ s => s = sz ∧ 0 ≤ i ∧ i < len ∧ K (.pt id (off + i.toNat * sz)) H
   | _ => False)
  | none => False)
 | some (.array n e), .sc (.int _ i) =>
  (match tinf P e with
  | some (sz, _, _) => 0 ≤ i ∧ i < n ∧
   (match a with
   | .pt id off => K (.pt id (off + i.toNat * sz)) H
   | .ep cs => K (.ep (cs.drop (i.toNat * sz))) H
   | _ => False)
  | none => False)
 | _, _ => False
theorem opS_indexAddr {t : TypeId} {x y : Operand} (h : aIndexAddr P t (aev fr x) (aev fr y) H K) : OpS P ⟨dst, .indexAddr t x y, ty, pos, after, guard⟩ fr H K := fun g w ev hop hm => by
 have hx := hop x (by simp [Op.operands])
 have hy := hop y (by simp [Op.operands])
 unfold aIndexAddr at h
 split at h
 ·rename_i e k i hs hi
  rw [hi] at hy
  have ey := VR_sc hy
  cases hti : tinf P e with
  | none => rw [hti] at h; exact h.elim
  | some q =>
   obtain ⟨sz, by_, zz⟩ := q
   rw [hti] at h
   have run : ∀ (ad : Addr) (len cap : Nat), ev x = .slice (some ad) len cap → ad.spot = none → 0 ≤ i → i < len →
     (execOp ev ⟨dst, .indexAddr t x y, ty, pos, after, guard⟩).run P w = .ok (.value (.pointer (some ⟨ad.block, ad.off + i.toNat * sz, none⟩))) w := fun ad len cap ex hsp h0 h1 => by
    simp only [execOp, Instr.indexAt, Sem.run_bind, ex, ey, asIntOf, Sem.run_pure, Result.andThen_ok, run_underlying hs, run_sizeOf hti, Sem.run_ite]
    rw [if_pos ⟨h0, h1⟩, add_plain hsp]
    rfl
   generalize aev fr x = ax at *
   generalize hvx : ev x = vx at *
   cases hx with
   | nil z => obtain ⟨_, _, h⟩ := h; exact h.elim
   | sl z es kk ad cap f hsp hcap hz hrow hk =>
    obtain ⟨rfl, h0, h⟩ := h
    cases hes : es[i.toNat]? with
    | none => rw [hes] at h; exact h.elim
    | some el =>
     rw [hes] at h
     have hlt := lt_of_get hes
     rw [run _ _ _ rfl (hsp.resolve_left (by omega)) h0 (by omega)]
     refine sr_here hm (.ep _ ⟨ad.block, ad.off + i.toNat * z, none⟩ (fun j => f (i.toNat * z + j)) rfl ?_) h
     rw [flatten_at hz hes]
     exact (hrow.drop _).take _
   | hs id off len mc s cap hid hl hmc hcap =>
    obtain ⟨rfl, h0, h1, h⟩ := h
    rw [run _ _ _ rfl rfl h0 h1]
    refine sr_here hm ?_ h
    have := VR.pt (g := g) id (off + i.toNat * s) hid
    rw [← Nat.add_assoc] at this
    exact this
   | hn id off s a hid => obtain ⟨_, h0, h1, _⟩ := h; omega
   | _ => exact h.elim
 ·rename_i m e k i hs hi
  rw [hi] at hy
  have ey := VR_sc hy
  cases hti : tinf P e with
  | none => rw [hti] at h; exact h.elim
  | some q =>
   obtain ⟨sz, by_, zz⟩ := q
   rw [hti] at h
   obtain ⟨h0, h1, h⟩ := h
   have run : ∀ (ad : Addr), ev x = .pointer (some ad) → ad.spot = none →
     (execOp ev ⟨dst, .indexAddr t x y, ty, pos, after, guard⟩).run P w = .ok (.value (.pointer (some ⟨ad.block, ad.off + i.toNat * sz, none⟩))) w := fun ad ex hsp => by
    simp only [execOp, Instr.indexAt, Sem.run_bind, ex, ey, asIntOf, Sem.run_pure, Result.andThen_ok, run_underlying hs, Instr.sureAddr, run_sizeOf hti, Sem.run_ite]
    rw [if_pos ⟨h0, h1⟩, add_plain hsp]
    rfl
   generalize aev fr x = ax at *
   generalize hvx : ev x = vx at *
   cases hx with
   | pt id off hid =>
    rw [run _ rfl rfl]
    refine sr_here hm ?_ h
    have := VR.pt (g := g) id (off + i.toNat * sz) hid
    rw [← Nat.add_assoc] at this
    exact this
   | ep cs ad f hsp hrow =>
    rw [run _ rfl hsp]
    exact sr_here hm (.ep _ ⟨ad.block, ad.off + i.toNat * sz, none⟩ _ rfl (hrow.drop _)) h
   | _ => exact h.elim
 ·exact h.elim
theorem opS_extract {x : Operand} {i : Nat} {vs : List AV} {a : AV} (hx : aev fr x = .tp vs) (ha : vs[i]? = some a) (h : K a H) : OpS P ⟨dst, .extract x i, ty, pos, after, guard⟩ fr H K := fun g w ev hop hm => by
 have hx' := hop x (by simp [Op.operands])
 rw [hx] at hx'
 generalize hvx : ev x = vx at *
 cases hx' with
 | tp _ us hs hv =>
  obtain ⟨u, h1, h2⟩ := VRs.get (g := g) (n := H.length) ⟨hs, hv⟩ ha
  have : (execOp ev ⟨dst, .extract x i, ty, pos, after, guard⟩).run P w = .ok (.value u) w := by
   simp only [execOp, Instr.extract, hvx, h1, Sem.run_bind, Sem.run_pure, Result.andThen_ok]
  rw [this]
  exact sr_here hm h2 h
def AV.there : AV → Bool
 | .pt _ _ | .ep _ => true
 | .fn (.func _) _ _ => true
 | _ => false
theorem opS_nilCheck {x : Operand} (ht : (aev fr x).there = true) (h : K (aev fr x) H) : OpS P ⟨dst, .nilCheck x, ty, pos, after, guard⟩ fr H K := fun g w ev hop hm => by
 have hx := hop x (by simp [Op.operands])
 generalize aev fr x = ax at *
 have : (execOp ev ⟨dst, .nilCheck x, ty, pos, after, guard⟩).run P w = .ok (.value (ev x)) w := by
  simp only [execOp]
  generalize ev x = vx at *
  cases hx with
  | pt => rfl
  | ep => rfl
  | fn f => cases f <;> first | rfl | cases ht
  | _ => cases ht
 rw [this]
 exact sr_here hm hx h
theorem opS_makeFunc {f : Fn} {first caps : Array Operand} (h : K (.fn f (first.toList.map (aev fr)) (caps.toList.map (aev fr))) H) : OpS P ⟨dst, .makeFunc f first caps, ty, pos, after, guard⟩ fr H K := fun g w ev hop hm => by
 have : (execOp ev ⟨dst, .makeFunc f first caps, ty, pos, after, guard⟩).run P w = .ok (.value (.func f (first.map ev) (caps.map ev))) w := by
  simp only [execOp, Instr.makeFunc, Sem.run_bind, Sem.run_pure, Result.andThen_ok]
 rw [this]
 refine sr_here hm (.fn f _ _ _ _ (by simp) (by simp) (fun i c hc => ?_) (fun i c hc => ?_)) h
 all_goals
  rw [List.getElem?_map] at hc
  rw [Array.getElem?_toList] at hc
 ·cases hf : first[i]? with
  | none => rw [hf] at hc; cases hc
  | some x =>
   rw [hf] at hc; simp only [Option.map_some, Option.some.injEq] at hc; subst hc
   rw [Array.getD_eq_getD_getElem?, Array.getElem?_map, hf]
   exact hop x (by simp only [Op.operands, Array.mem_append]; exact .inl (Array.mem_of_getElem? hf))
 ·cases hf : caps[i]? with
  | none => rw [hf] at hc; cases hc
  | some x =>
   rw [hf] at hc; simp only [Option.map_some, Option.some.injEq] at hc; subst hc
   rw [Array.getD_eq_getD_getElem?, Array.getElem?_map, hf]
   exact hop x (by simp only [Op.operands, Array.mem_append]; exact .inr (Array.mem_of_getElem? hf))
theorem run_callFunc {f : FuncId} (hc : callable P f = true) (args : Array Value) (w : World) : (callFunc f args).run P w = .ok (.enter f args) w := by
 unfold callable at hc
 cases hf : P.funcs[f]? with
 | none => rw [hf] at hc; cases hc
 | some fn =>
  rw [hf] at hc
  simp only [Bool.and_eq_true, bne_iff_ne, ne_eq] at hc
  have h3 : ¬ fn.body = none := by cases hb : fn.body <;> simp_all
  simp [callFunc, hf, hc.2, h3]
theorem vrs_args {g : Gh} {n : Nat} {ev : Operand → Value} {xs : Array Operand} (h : ∀ x, x ∈ xs → VR g n (aev fr x) (ev x)) : VRs g n (xs.toList.map (aev fr)) (xs.map ev) := by
 refine ⟨by simp, fun i c hc => ?_⟩
 rw [List.getElem?_map, Array.getElem?_toList] at hc
 cases hf : xs[i]? with
 | none => rw [hf] at hc; cases hc
 | some x =>
  rw [hf] at hc; simp only [Option.map_some, Option.some.injEq] at hc; subst hc
  rw [Array.getD_eq_getD_getElem?, Array.getElem?_map, hf]
  exact h x (Array.mem_of_getElem? hf)
theorem opS_call {f : FuncId} {xs : Array Operand} {ats : Array TypeId} (h : ACalls P f (xs.toList.map (aev fr)) H K) : OpS P ⟨dst, .call ⟨.value (.func f), xs, ats⟩, ty, pos, after, guard⟩ fr H K := fun g w ev hop hm => by
 have hf := hop (.func f) (by simp [Op.operands, Call.operands])
 have hargs := vrs_args (fr := fr) (xs := xs) (ev := ev) (g := g) (n := H.length) fun x hx => hop x (by simp only [Op.operands, Call.operands, Array.mem_append]; exact .inr hx)
 have hev : ev (.func f) = .func (.func f) #[] #[] := by
  have : VR g H.length (.fn (.func f) [] []) (ev (.func f)) := hf
  generalize ev (.func f) = vf at this
  cases this with
  | fn _ _ _ vf vc h1 h2 _ _ => rw [Array.eq_empty_of_size_eq_zero h1, Array.eq_empty_of_size_eq_zero h2]
 have : (execOp ev ⟨dst, .call ⟨.value (.func f), xs, ats⟩, ty, pos, after, guard⟩).run P w = .ok (.enter f (xs.map ev)) w := by
  simp only [execOp, resolve, hev, Deferred.ofValue, Sem.run_bind, Sem.run_pure, Result.andThen_ok, invoke, Array.append_empty, Array.empty_append, run_callFunc h.1]
 rw [this]
 exact h.2 g w _ hm hargs.1 hargs.2
theorem VRs.append {g : Gh} {n : Nat} {asl bs : List AV} {a b : Array Value} (ha : VRs g n asl a) (hb : VRs g n bs b) : VRs g n (asl ++ bs) (a ++ b) := by
 refine ⟨by simp [ha.1, hb.1], fun i c hc => ?_⟩
 rw [Array.getD_eq_getD_getElem?]
 rcases Nat.lt_or_ge i asl.length with h | h
 ·rw [List.getElem?_append_left h] at hc
  have := ha.2 i c hc
  rw [Array.getD_eq_getD_getElem?] at this
  rw [Array.getElem?_append_left (by rw [ha.1]; exact h)]; exact this
 ·rw [List.getElem?_append_right h] at hc
  have := hb.2 _ c hc
  rw [Array.getD_eq_getD_getElem?] at this
  rw [Array.getElem?_append_right (by rw [ha.1]; exact h), ha.1]; exact this
theorem opS_callv {f : FuncId} {t : Nat} {first caps : List AV} {xs : Array Operand} {ats : Array TypeId} (ht : fr t = .fn (.func f) first caps) (h : ACalls P f (first ++ xs.toList.map (aev fr) ++ caps) H K) :
  OpS P ⟨dst, .call ⟨.value (.tmp t), xs, ats⟩, ty, pos, after, guard⟩ fr H K := fun g w ev hop hm => by
 have hf := hop (.tmp t) (by simp [Op.operands, Call.operands])
 have hargs := vrs_args (fr := fr) (xs := xs) (ev := ev) (g := g) (n := H.length) fun x hx => hop x (by simp only [Op.operands, Call.operands, Array.mem_append]; exact .inr hx)
 have hf' : VR g H.length (.fn (.func f) first caps) (ev (.tmp t)) := by have : aev fr (.tmp t) = .fn (.func f) first caps := ht; rw [← this]; exact hf
 generalize hvf : ev (.tmp t) = vf at hf'
 cases hf' with
 | fn _ _ _ vf vc h1 h2 h3 h4 =>
  have : (execOp ev ⟨dst, .call ⟨.value (.tmp t), xs, ats⟩, ty, pos, after, guard⟩).run P w = .ok (.enter f (vf ++ xs.map ev ++ vc)) w := by
   simp only [execOp, resolve, hvf, Deferred.ofValue, Sem.run_bind, Sem.run_pure, Result.andThen_ok, invoke, run_callFunc h.1]
  rw [this]
  have hall := ((VRs.append ⟨h1, h3⟩ hargs).append (bs := caps) (b := vc) ⟨h2, h4⟩)
  exact h.2 g w _ hm hall.1 hall.2
end
end Go.Proofs.YtaaamoicidfgcaaGreat.Am
namespace Go.Proofs.YtaaamoicidfgcaaGreat.Am
open Go
def intBin (op : BinOp) (k : IntKind) (a b : Int) : Option Value :=
 match op with
 | .add => some (.int k (k.wrap (a + b)))
 | .sub => some (.int k (k.wrap (a - b)))
 | .mul => some (.int k (k.wrap (a * b)))
 | .quo => if b = 0 then none else some (.int k (k.wrap (a.tdiv b)))
 | .rem => if b = 0 then none else some (.int k (a.tmod b))
 | .and => some (.int k (bits .and k a b))
 | .or => some (.int k (bits .or k a b))
 | .xor => some (.int k (bits .xor k a b))
 | .andNot => some (.int k (bits .andNot k a b))
 | .eql => some (.bool (a == b))
 | .neq => some (.bool (a != b))
 | .lss => some (.bool (a < b))
 | .leq => some (.bool (a ≤ b))
 | .gtr => some (.bool (a > b))
 | .geq => some (.bool (a ≥ b))
 | _ => none
def strBin (op : BinOp) (a b : ByteArray) : Option Value :=
 match op with
 | .eql => some (.bool (a.data.toList == b.data.toList))
 | .neq => some (.bool (!(a.data.toList == b.data.toList)))
 | .lss => some (.bool (Op.bytesLess a.data.toList b.data.toList))
 | .add => if a.size + b.size ≤ 9223372036854775807 then some (.string (a ++ b)) else none
 | _ => none
def nilSl : AV → Option Bool
 | .sl _ (_ :: _) _ => some false
 | .hs _ _ (_ + 1) _ _ => some false
 | .sc (.slice none _ _) => some true
 | _ => none
def nilPt : AV → Option Bool
 | .pt _ _ => some false
 | .ep _ => some false
 | .sc (.pointer none) => some true
 | _ => none
def nilMp : AV → Option Bool
 | .mp _ => some false
 | .sc (.map none) => some true
 | _ => none
def twoNil : Option Bool → Option Bool → Option Bool
 | some true, some b => some b
 | some false, some true => some false
 | _, _ => none
def aEq (P : Program) (t : TypeId) (x y : AV) : Option Bool :=
 match P.underlying t with
 | some .bool => (match x, y with | .sc (.bool a), .sc (.bool b) => some (a == b) | _, _ => none)
 | some (.slice _) => twoNil (nilSl x) (nilSl y)
 | some (.pointer _) => twoNil (nilPt x) (nilPt y)
 | some (.map _ _) => twoNil (nilMp x) (nilMp y)
 | _ => none
def aBin (P : Program) (op : BinOp) (t : TypeId) (x y : AV) : Option Value :=
 match x, y with
 | .sc (.int k a), .sc (.int k' b) =>
  (match op with
  | .shl => if 0 ≤ b then some (.int k (k.wrap (a * 2 ^ min b.toNat k.bits))) else none
  | .shr => if 0 ≤ b then some (.int k (a / 2 ^ min b.toNat k.bits)) else none
  | op => if k = k' then intBin op k a b else none)
 | .sc (.string a), .sc (.string b) => strBin op a b
 | x, y =>
  (match op with
  | .eql => (aEq P t x y).map .bool
  | .neq => (aEq P t x y).map fun b => .bool (!b)
  | _ => none)
theorem nilSl_spec {g : Gh} {n : Nat} {x : AV} {v : Value} {b : Bool} (hv : VR g n x v) (h : nilSl x = some b) : ∃ a l c, v = .slice a l c ∧ a.isNone = b := by
 cases hv with
 | sc v =>
  cases v with
  | slice a l c => cases a with
   | none => simp [nilSl] at h; subst h; exact ⟨_, _, _, rfl, rfl⟩
   | some a => simp [nilSl] at h
  | _ => simp [nilSl] at h
 | sl z es k a cap f h1 h2 h3 h4 h5 =>
  refine ⟨_, _, _, rfl, ?_⟩
  cases es <;> cases k <;> simp [nilSl] at h <;> subst h <;> rfl
 | hs id off len mc s cap => cases len <;> simp [nilSl] at h; subst h; exact ⟨_, _, _, rfl, rfl⟩
 | _ => simp [nilSl] at h
theorem nilPt_spec {g : Gh} {n : Nat} {x : AV} {v : Value} {b : Bool} (hv : VR g n x v) (h : nilPt x = some b) : ∃ a, v = .pointer a ∧ a.isNone = b := by
 cases hv with
 | sc v =>
  cases v with
  | pointer a => cases a with
   | none => simp [nilPt] at h; subst h; exact ⟨_, rfl, rfl⟩
   | some a => simp [nilPt] at h
  | _ => simp [nilPt] at h
 | pt => simp [nilPt] at h; subst h; exact ⟨_, rfl, rfl⟩
 | ep => simp [nilPt] at h; subst h; exact ⟨_, rfl, rfl⟩
 | _ => simp [nilPt] at h
theorem nilMp_spec {g : Gh} {n : Nat} {x : AV} {v : Value} {b : Bool} (hv : VR g n x v) (h : nilMp x = some b) : ∃ a, v = .map a ∧ a.isNone = b := by
 cases hv with
 | sc v =>
  cases v with
  | map a => cases a with
   | none => simp [nilMp] at h; subst h; exact ⟨_, rfl, rfl⟩
   | some a => simp [nilMp] at h
  | _ => simp [nilMp] at h
 | mp => simp [nilMp] at h; subst h; exact ⟨_, rfl, rfl⟩
 | _ => simp [nilMp] at h
theorem twoNil_spec {a b : Option Bool} {r : Bool} (h : twoNil a b = some r) : ∃ p q, a = some p ∧ b = some q ∧ ((p = true ∧ r = q) ∨ (p = false ∧ q = true ∧ r = false)) := by
 unfold twoNil at h
 split at h
 ·rename_i q; simp at h; subst h; exact ⟨_, _, rfl, rfl, .inl ⟨rfl, rfl⟩⟩
 ·simp at h; subst h; exact ⟨_, _, rfl, rfl, .inr ⟨rfl, rfl, rfl⟩⟩
 ·cases h
theorem eq_slice {P : Program} {t e : TypeId} (ht : P.underlying t = some (.slice e)) (d : Nat) {a a' : Option Addr} {l c l' c' : Nat} {b : Bool}
  (h3 : (a.isNone = true ∧ b = a'.isNone) ∨ (a.isNone = false ∧ a'.isNone = true ∧ b = false)) (w : World) : (Op.equalIn (d + 1) t (.slice a l c) (.slice a' l' c')).run P w = .ok b w := by
 rcases h3 with ⟨h3, rfl⟩ | ⟨h3, h4, rfl⟩
 ·cases a with
  | none => simp [Op.equalIn, run_underlying ht]
  | some a => cases h3
 ·cases a with
  | none => cases h3
  | some a => cases a' with
   | none => simp [Op.equalIn, run_underlying ht]
   | some a' => cases h4
theorem eq_pointer {P : Program} {t e : TypeId} (ht : P.underlying t = some (.pointer e)) (d : Nat) {a a' : Option Addr} {b : Bool}
  (h3 : (a.isNone = true ∧ b = a'.isNone) ∨ (a.isNone = false ∧ a'.isNone = true ∧ b = false)) (w : World) : (Op.equalIn (d + 1) t (.pointer a) (.pointer a')).run P w = .ok b w := by
 rcases h3 with ⟨h3, rfl⟩ | ⟨h3, h4, rfl⟩
 ·cases a with
  | none => simp [Op.equalIn, run_underlying ht]
  | some a => cases h3
 ·cases a with
  | none => cases h3
  | some a => cases a' with
   | none => simp [Op.equalIn, run_underlying ht]
   | some a' => cases h4
theorem eq_map {P : Program} {t k e : TypeId} (ht : P.underlying t = some (.map k e)) (d : Nat) {a a' : Option Nat} {b : Bool}
  (h3 : (a.isNone = true ∧ b = a'.isNone) ∨ (a.isNone = false ∧ a'.isNone = true ∧ b = false)) (w : World) : (Op.equalIn (d + 1) t (.map a) (.map a')).run P w = .ok b w := by
 rcases h3 with ⟨h3, rfl⟩ | ⟨h3, h4, rfl⟩
 ·cases a with
  | none => simp [Op.equalIn, run_underlying ht]
  | some a => cases h3
 ·cases a with
  | none => cases h3
  | some a => cases a' with
   | none => simp [Op.equalIn, run_underlying ht]
   | some a' => cases h4
theorem run_eq {P : Program} {t : TypeId} {u v : Value} {b : Bool} {w : World} (hr : (Op.equalIn 10000 t u v).run P w = .ok b w) (h1 : binOp .eql t u v = do pure (.bool (← Op.equal t u v))) (h2 : binOp .neq t u v = do pure (.bool (!(← Op.equal t u v)))) :
  (binOp .eql t u v).run P w = .ok (.bool b) w ∧ (binOp .neq t u v).run P w = .ok (.bool (!b)) w := by
 rw [h1, h2]
 simp only [Op.equal, Op.maxDepth, Sem.run_bind, hr, Result.andThen_ok, Sem.run_pure, and_self]
theorem run_aEq {P : Program} {t : TypeId} {x y : AV} {b : Bool} (h : aEq P t x y = some b) {g : Gh} {n : Nat} {u v : Value} (hu : VR g n x u) (hv : VR g n y v) (w : World) :
  (∀ op p q, eqGuard op t p q u v = pure ()) ∧ (binOp .eql t u v).run P w = .ok (.bool b) w ∧ (binOp .neq t u v).run P w = .ok (.bool (!b)) w := by
 unfold aEq at h
 cases ht : P.underlying t with
 | none => rw [ht] at h; cases h
 | some d =>
  rw [ht] at h
  cases d with
  | bool =>
   simp only at h
   split at h
   ·rename_i a b'
    simp at h; subst h
    have e1 := VR_sc hu; have e2 := VR_sc hv
    subst e1; subst e2
    exact ⟨fun op p q => by simp [go_sem], run_eql_bool w t a b' ht, run_neq_bool w t a b' ht⟩
   ·cases h
  | slice e =>
   obtain ⟨p, q, h1, h2, h3⟩ := twoNil_spec h
   obtain ⟨a, l, c, rfl, rfl⟩ := nilSl_spec hu h1
   obtain ⟨a', l', c', rfl, rfl⟩ := nilSl_spec hv h2
   exact ⟨fun op p q => by simp [go_sem], run_eq (eq_slice ht 9999 h3 w) rfl rfl⟩
  | pointer e =>
   obtain ⟨p, q, h1, h2, h3⟩ := twoNil_spec h
   obtain ⟨a, rfl, rfl⟩ := nilPt_spec hu h1
   obtain ⟨a', rfl, rfl⟩ := nilPt_spec hv h2
   exact ⟨fun op p q => by simp [go_sem], run_eq (eq_pointer ht 9999 h3 w) rfl rfl⟩
  | map kt e =>
   obtain ⟨p, q, h1, h2, h3⟩ := twoNil_spec h
   obtain ⟨a, rfl, rfl⟩ := nilMp_spec hu h1
   obtain ⟨a', rfl, rfl⟩ := nilMp_spec hv h2
   exact ⟨fun op p q => by simp [go_sem], run_eq (eq_map ht 9999 h3 w) rfl rfl⟩
  | _ => cases h
theorem run_intBin {P : Program} {op : BinOp} {t : TypeId} {k : IntKind} {a b : Int} {v : Value} (hs : op ≠ .shl) (hr : op ≠ .shr) (h : intBin op k a b = some v) (w : World) :
  (binOp op t (.int k a) (.int k b)).run P w = .ok v w := by
 cases op <;> simp only [intBin, Option.some.injEq] at h <;> first | (exact absurd rfl hs) | (exact absurd rfl hr) | (subst h; simp [binOp, Op.intArith, Op.intCmp, Op.intBits, bits]; done) | cases h | skip
 all_goals
  split at h
  ·cases h
  ·rename_i h0
   simp at h; subst h
   simp [binOp, Op.intDiv, h0]
theorem run_strBin {P : Program} {op : BinOp} {t : TypeId} {a b : ByteArray} {v : Value} (h : strBin op a b = some v) (w : World) :
  (binOp op t (.string a) (.string b)).run P w = .ok v w := by
 cases op <;> simp only [strBin, Option.some.injEq] at h <;> first | (subst h; simp [binOp, Op.stringOp, ByteArray.toList_eq]; done) | cases h | skip
 split at h
 ·rename_i h0
  simp at h; subst h
  rw [show binOp .add t (.string a) (.string b) = Op.stringOp .add a b from by simp [binOp]]
  exact run_string_add_sum w a b h0
 ·cases h
section
variable {P : Program} {fr : Frm} {H : Mem} {K : AV → Mem → Prop} {dst : Option Nat} {ty : TypeId} {pos : String} {after : Array Edge} {guard : Option (Nat × Bool)}
theorem opS_binOp {op : BinOp} {t t' : TypeId} {x y : Operand} {v : Value} (hv : aBin P op t (aev fr x) (aev fr y) = some v) (h : K (.sc v) H) : OpS P ⟨dst, .binOp op t x y t', ty, pos, after, guard⟩ fr H K := fun g w ev hop hm => by
 have hx := hop x (by simp [Op.operands])
 have hy := hop y (by simp [Op.operands])
 have run : (eqGuard op t x y (ev x) (ev y)).run P w = .ok () w ∧ (binOp op t (ev x) (ev y)).run P w = .ok v w := by
  generalize aev fr x = ax at *
  generalize aev fr y = ay at *
  unfold aBin at hv
  split at hv
  ·rename_i k a k' b
   have e1 := VR_sc hx; have e2 := VR_sc hy
   rw [e1, e2]
   refine ⟨by simp [go_sem], ?_⟩
   split at hv
   ·split at hv
    ·rename_i h0
     simp at hv; subst hv
     simp only [binOp_shl, shift_shl_any _ _ _ _ h0, Sem.run_pure]
    ·cases hv
   ·split at hv
    ·rename_i h0
     simp at hv; subst hv
     simp only [binOp_shr, shift_shr_any _ _ _ _ h0, Sem.run_pure]
    ·cases hv
   ·rename_i n1 n2
    split at hv
    ·rename_i hk
     subst hk
     exact run_intBin n1 n2 hv w
    ·cases hv
  ·rename_i a b
   have e1 := VR_sc hx; have e2 := VR_sc hy
   rw [e1, e2]
   exact ⟨by simp [go_sem], run_strBin hv w⟩
  ·split at hv
   ·cases hq : aEq P t ax ay with
    | none => rw [hq] at hv; cases hv
    | some b =>
     rw [hq] at hv; simp at hv; subst hv
     obtain ⟨h1, h2, _⟩ := run_aEq hq hx hy w
     exact ⟨by rw [h1]; rfl, h2⟩
   ·cases hq : aEq P t ax ay with
    | none => rw [hq] at hv; cases hv
    | some b =>
     rw [hq] at hv; simp at hv; subst hv
     obtain ⟨h1, _, h3⟩ := run_aEq hq hx hy w
     exact ⟨by rw [h1]; rfl, h3⟩
   ·cases hv
 have : (execOp ev ⟨dst, .binOp op t x y t', ty, pos, after, guard⟩).run P w = .ok (.value v) w := by
  simp only [execOp, Sem.run_bind, run.1, run.2, Result.andThen_ok, Sem.run_pure]
 rw [this]
 exact sr_here hm (.sc _) h
def aUn (op : UnOp) (x : AV) : Option Value :=
 match op, x with
 | .not, .sc (.bool b) => some (.bool !b)
 | .neg, .sc (.int k n) => some (.int k (k.wrap (0 - n)))
 | .xor, .sc (.int k n) => some (.int k (bits .xor k (if k.signed then -1 else k.max) n))
 | _, _ => none
theorem opS_unOp {op : UnOp} {t : TypeId} {x : Operand} {v : Value} (hv : aUn op (aev fr x) = some v) (h : K (.sc v) H) : OpS P ⟨dst, .unOp op t x, ty, pos, after, guard⟩ fr H K := fun g w ev hop hm => by
 have hx := hop x (by simp [Op.operands])
 have : (execOp ev ⟨dst, .unOp op t x, ty, pos, after, guard⟩).run P w = .ok (.value v) w := by
  unfold aUn at hv
  split at hv
  ·rename_i b e; rw [e] at hx; simp at hv; subst hv
   simp [execOp, VR_sc hx, Op.unary]
  ·rename_i k n e; rw [e] at hx; simp at hv; subst hv
   simp [execOp, VR_sc hx, Op.unary, Op.intArith]
  ·rename_i k n e; rw [e] at hx; simp at hv; subst hv
   simp [execOp, VR_sc hx, Op.unary, Op.intBits, bits]
  ·cases hv
 rw [this]
 exact sr_here hm (.sc _) h
def encB (b : UInt8) : List PV := [.sc (.int .u8 b.toNat)]
def byteOf : List PV → Option UInt8
 | [.sc (.int .u8 n)] => some (UInt8.ofNat n.toNat)
 | _ => none
def bytesOf (es : List (List PV)) : ByteArray := ⟨(es.filterMap byteOf).toArray⟩
def aConv (P : Program) (src dst : TypeId) (x : AV) : Option Value :=
 match P.underlying src, P.underlying dst with
 | some _, some (.int k) => (match x with | .sc (.int _ n) => some (.int k (k.wrap n)) | _ => none)
 | some .string, some .string => (match x with | .sc (.string s) => some (.string s) | _ => none)
 | some (.slice e), some .string =>
  (match P.underlying e with
  | some (.int .u8) =>
   (match x with
   | .sl z es _ => if z = 1 then (if (es.all fun e => (byteOf e).isSome) then some (.string (bytesOf es)) else none) else none
   | .sc (.slice none _ _) => some (.string .empty)
   | _ => none)
  | _ => none)
 | _, _ => none
theorem bytes_fold (ns : List Int) (s : ByteArray) : ns.foldl (fun r n => r.push (UInt8.ofNat n.toNat)) s = ⟨(s.data.toList ++ ns.map fun n => UInt8.ofNat n.toNat).toArray⟩ := by
 induction ns generalizing s with
 | nil => simp
 | cons n ns ih =>
  rw [List.foldl_cons, ih]
  congr 1
  simp [ByteArray.push]
theorem bytes_rows {ro : Nat → Nat → Option Value} {b o : Nat} {es : List (List PV)} {f : Nat → Value} (hz : ∀ e, e ∈ es → e.length = 1) (hrow : Row ro b o es.flatten f) (hb : (es.all fun e => (byteOf e).isSome) = true) :
  ∃ ns : List Int, (List.range es.length).map f = ns.map (Value.int .u8) ∧ (ns.map fun n => UInt8.ofNat n.toNat) = es.filterMap byteOf := by
 induction es generalizing o f with
 | nil => exact ⟨[], rfl, rfl⟩
 | cons e es ih =>
  simp only [List.all_cons, Bool.and_eq_true] at hb
  have he := hz e List.mem_cons_self
  obtain ⟨p, rfl⟩ : ∃ p, e = [p] := by
   cases e with
   | nil => simp at he
   | cons p e => cases e with
    | nil => exact ⟨p, rfl⟩
    | cons q e => simp at he
  have hrow' : Row ro b (o + 1) es.flatten (fun j => f (1 + j)) := by
   have := hrow.drop 1
   simpa using this
  obtain ⟨ns, h1, h2⟩ := ih (fun x hx => hz x (List.mem_cons_of_mem _ hx)) hrow' hb.2
  have h0 := hrow 0 p (by simp)
  have hp : ∃ n, p = .sc (.int .u8 n) := by
   have := hb.1
   unfold byteOf at this
   split at this
   ·rename_i n heq; simp at heq; exact ⟨n, heq⟩
   ·cases this
  obtain ⟨n, rfl⟩ := hp
  have hf0 : f 0 = .int .u8 n := by
   have := h0.2
   generalize f 0 = v0 at this
   cases this; rfl
  refine ⟨n :: ns, ?_, ?_⟩
  ·rw [List.length_cons, List.range_succ_eq_map, List.map_cons, List.map_cons, hf0, List.map_map, ← h1]
   congr 1
   apply List.map_congr_left
   intro j _
   simp [Function.comp, Nat.add_comm]
  ·rw [List.map_cons, h2, List.filterMap_cons]
   rfl
theorem opS_convert {s d : TypeId} {x : Operand} {v : Value} (hv : aConv P s d (aev fr x) = some v) (h : K (.sc v) H) : OpS P ⟨dst, .convert s d x, ty, pos, after, guard⟩ fr H K := fun g w ev hop hm => by
 have hx := hop x (by simp [Op.operands])
 have run : (convert s d (ev x)).run P w = .ok v w := by
  generalize aev fr x = ax at *
  unfold aConv at hv
  split at hv
  ·rename_i u k hs hd
   split at hv
   ·rename_i k' n
    simp at hv; subst hv
    rw [VR_sc hx]
    simp [convert, run_underlying hs, run_underlying hd, Conv.intToInt]
   ·cases hv
  ·rename_i hs hd
   split at hv
   ·rename_i b
    simp at hv; subst hv
    rw [VR_sc hx]
    simp [convert, run_underlying hs, run_underlying hd]
   ·cases hv
  ·rename_i e hs hd
   split at hv
   ·rename_i he
    split at hv
    ·rename_i z es kk
     split at hv
     ·rename_i hz1
      subst hz1
      split at hv
      ·rename_i hall
       simp at hv; subst hv
       generalize ev x = vx at *
       cases hx with
       | nil z =>
        rw [run_convert_bytes_string w s d e none 0 0 hs he hd]
        simp [Conv.bytesToString, bytesOf]; rfl
       | sl _ _ _ a cap f hsp hcap hz hrow hk =>
        rw [run_convert_bytes_string w s d e _ _ _ hs he hd]
        obtain ⟨ns, h1, h2⟩ := bytes_rows hz hrow hall
        have hl := run_loadCells (P := P) w a es.length f (fun j hj => by
         rw [add_plain (hsp.resolve_left (fun h0 => by subst h0; simp_all))]
         have hfl : es.flatten.length = es.length := by rw [flatten_length hz]; omega
         exact hm.ro _ _ _ (hrow j (es.flatten[j]'(by omega)) (List.getElem?_eq_getElem (by omega))).1)
        rw [h1] at hl
        rw [run_bytesToString w a es.length cap ns hl, bytes_fold]
        simp [bytesOf, h2, ByteArray.empty, ByteArray.emptyWithCapacity]
        rfl
      ·cases hv
     ·cases hv
    ·rename_i l c
     simp at hv; subst hv
     rw [VR_sc hx, run_convert_bytes_string w s d e _ _ _ hs he hd]
     simp [Conv.bytesToString]
    ·cases hv
   ·cases hv
  ·cases hv
 have : (execOp ev ⟨dst, .convert s d x, ty, pos, after, guard⟩).run P w = .ok (.value v) w := by
  simp only [execOp, Sem.run_bind, run, Result.andThen_ok, Sem.run_pure]
 rw [this]
 exact sr_here hm (.sc _) h
def aLen (P : Program) (t : TypeId) (x : AV) (H : Mem) : Option Int :=
 match P.underlying t with
 | some .string => (match x with | .sc (.string s) => some s.size | _ => none)
 | some (.slice _) => (match x with | .sl _ es _ => some es.length | .hs _ _ len _ _ => some len | .sc (.slice _ n _) => some n | _ => none)
 | some (.array n _) => some n
 | some (.map _ _) => (match x with | .sc (.map none) => some 0 | .mp id => (match H[id]? with | some (.map es) => some es.length | _ => none) | _ => none)
 | _ => none
theorem b_len {a : Array TypeId} {t : TypeId} {c : Array Bool} {v : Array Value} : builtin .len a t c v = (do pure (.value (← Builtin.len_ a t v))) := rfl
theorem b_max {a : Array TypeId} {t : TypeId} {c : Array Bool} {v : Array Value} : builtin .max a t c v = (do pure (.value (← Builtin.max_ a t v))) := rfl
theorem b_min {a : Array TypeId} {t : TypeId} {c : Array Bool} {v : Array Value} : builtin .min a t c v = (do pure (.value (← Builtin.min_ a t v))) := rfl
theorem execOp_b {ev : Operand → Value} (b : Builtin) (xs : Array Operand) (ats : Array TypeId) :
  execOp ev ⟨dst, .call ⟨.builtin b, xs, ats⟩, ty, pos, after, guard⟩ = builtin b ats ty (xs.map fun | .const _ => true | _ => false) (xs.map ev) := rfl
theorem opS_len {t : TypeId} {x : Operand} {n : Int} (hn : aLen P t (aev fr x) H = some n) (h : K (.sc (.int .i64 n)) H) : OpS P ⟨dst, .call ⟨.builtin .len, #[x], #[t]⟩, ty, pos, after, guard⟩ fr H K := fun g w ev hop hm => by
 have hx := hop x (by simp [Op.operands, Call.operands])
 have run : (Builtin.len_ #[t] ty #[ev x]).run P w = .ok (.int .i64 n) w := by
  generalize aev fr x = ax at *
  unfold aLen at hn
  split at hn
  ·rename_i ht
   split at hn
   ·simp at hn; subst hn
    rw [VR_sc hx]
    simp [Builtin.len_, run_underlying ht, goInt]
   ·cases hn
  ·rename_i e ht
   split at hn
   ·simp at hn; subst hn
    generalize ev x = vx at *
    cases hx with
    | nil => simp [Builtin.len_, run_underlying ht, goInt]
    | sl => simp [Builtin.len_, run_underlying ht, goInt]
   ·simp at hn; subst hn
    generalize ev x = vx at *
    cases hx with
    | hs => simp [Builtin.len_, run_underlying ht, goInt]
    | hn => simp [Builtin.len_, run_underlying ht, goInt]
   ·simp at hn; subst hn
    rw [VR_sc hx]
    simp [Builtin.len_, run_underlying ht, goInt]
   ·cases hn
  ·rename_i m e ht
   simp at hn; subst hn
   simp [Builtin.len_, run_underlying ht, goInt]
  ·rename_i kt e ht
   split at hn
   ·simp at hn; subst hn
    rw [VR_sc hx]
    simp [Builtin.len_, run_underlying ht, goInt]
   ·rename_i id
    generalize ev x = vx at *
    cases hx with
    | mp _ hid =>
     cases he : H[id]? with
     | none => rw [he] at hn; cases hn
     | some en =>
      rw [he] at hn
      cases en with
      | map es =>
       simp at hn; subst hn
       obtain ⟨_, _, ents, clock, h1, h2⟩ := hm.ent id _ he
       simp only [Builtin.len_, Sem.run_bind, run_underlying ht, Result.andThen_ok, List.getElem?_toArray, List.getElem?_cons_zero]
       simp [getObj, Sem.run, h1, Result.andThen, goInt, h2.size]
      | _ => cases hn
   ·cases hn
  ·cases hn
 have : (execOp ev ⟨dst, .call ⟨.builtin .len, #[x], #[t]⟩, ty, pos, after, guard⟩).run P w = .ok (.value (.int .i64 n)) w := by
  rw [execOp_b, b_len]
  simp only [List.map_toArray, List.map_cons, List.map_nil, Sem.run_bind, run, Result.andThen_ok, Sem.run_pure]
 rw [this]
 exact sr_here hm (.sc _) h
def aMax (x y : AV) : Option Value := match x, y with | .sc (.int k a), .sc (.int _ b) => some (.int k (if b > a then b else a)) | _, _ => none
def aMin (x y : AV) : Option Value := match x, y with | .sc (.int k a), .sc (.int _ b) => some (.int k (if b < a then b else a)) | _, _ => none
theorem opS_max {ats : Array TypeId} {x y : Operand} {v : Value} (hv : aMax (aev fr x) (aev fr y) = some v) (h : K (.sc v) H) : OpS P ⟨dst, .call ⟨.builtin .max, #[x, y], ats⟩, ty, pos, after, guard⟩ fr H K := fun g w ev hop hm => by
 have hx := hop x (by simp [Op.operands, Call.operands])
 have hy := hop y (by simp [Op.operands, Call.operands])
 have : (execOp ev ⟨dst, .call ⟨.builtin .max, #[x, y], ats⟩, ty, pos, after, guard⟩).run P w = .ok (.value v) w := by
  unfold aMax at hv
  split at hv
  ·rename_i k a k' b e1 e2
   rw [e1] at hx; rw [e2] at hy
   simp at hv; subst hv
   rw [execOp_b, b_max]
   simp only [List.map_toArray, List.map_cons, List.map_nil, Sem.run_bind, VR_sc hx, VR_sc hy, run_max_int2, Result.andThen_ok, Sem.run_pure]
  ·cases hv
 rw [this]
 exact sr_here hm (.sc _) h
theorem opS_min {ats : Array TypeId} {x y : Operand} {v : Value} (hv : aMin (aev fr x) (aev fr y) = some v) (h : K (.sc v) H) : OpS P ⟨dst, .call ⟨.builtin .min, #[x, y], ats⟩, ty, pos, after, guard⟩ fr H K := fun g w ev hop hm => by
 have hx := hop x (by simp [Op.operands, Call.operands])
 have hy := hop y (by simp [Op.operands, Call.operands])
 have : (execOp ev ⟨dst, .call ⟨.builtin .min, #[x, y], ats⟩, ty, pos, after, guard⟩).run P w = .ok (.value v) w := by
  unfold aMin at hv
  split at hv
  ·rename_i k a k' b e1 e2
   rw [e1] at hx; rw [e2] at hy
   simp at hv; subst hv
   rw [execOp_b, b_min]
   simp only [List.map_toArray, List.map_cons, List.map_nil, Sem.run_bind, VR_sc hx, VR_sc hy, run_min_int2, Result.andThen_ok, Sem.run_pure]
  ·cases hv
 rw [this]
 exact sr_here hm (.sc _) h
end
end Go.Proofs.YtaaamoicidfgcaaGreat.Am
namespace Go.Proofs.YtaaamoicidfgcaaGreat.Am
open Go
section
variable {P : Program} {fr : Frm} {H : Mem} {K : AV → Mem → Prop} {dst : Option Nat} {ty : TypeId} {pos : String} {after : Array Edge} {guard : Option (Nat × Bool)}
def bnd (fr : Frm) : Option Operand → Option (Option (IntKind × Int))
 | none => some none
 | some x => match aev fr x with | .sc (.int k n) => some (some (k, n)) | _ => none
theorem bnd_spec {g : Gh} {n : Nat} {ev : Operand → Value} {o : Option Operand} {r : Option (IntKind × Int)} (h : bnd fr o = some r) (hv : ∀ x, o = some x → VR g n (aev fr x) (ev x)) :
  o.map ev = r.map fun p => Value.int p.1 p.2 := by
 cases o with
 | none => simp [bnd] at h; subst h; rfl
 | some x =>
  simp only [bnd] at h
  split at h
  ·rename_i k m e
   simp at h; subst h
   have := hv x rfl
   rw [e] at this
   simp [VR_sc this]
  ·cases h
def bd0 (r : Option (IntKind × Int)) (d : Int) : Int := match r with | some p => p.2 | none => d
theorem run_bounds {isSl : Bool} {len cap : Nat} {lo hi mx : Option (IntKind × Int)} (hm : mx.isSome = true → hi.isSome = true) (h0 : 0 ≤ bd0 lo 0) (h1 : bd0 lo 0 ≤ bd0 hi len) (h2 : bd0 hi len ≤ bd0 mx cap) (h3 : bd0 mx cap ≤ cap) (w : World) :
  (Instr.sliceBounds isSl len cap (lo.map fun p => Value.int p.1 p.2) (hi.map fun p => Value.int p.1 p.2) (mx.map fun p => Value.int p.1 p.2)).run P w = .ok ((bd0 lo 0).toNat, (bd0 hi len).toNat, (bd0 mx cap).toNat) w := by
 cases lo <;> cases hi <;> cases mx <;> simp only [bd0] at h0 h1 h2 h3 <;> simp only [Option.isSome, reduceCtorEq, imp_false, not_true_eq_false, true_implies] at hm <;>
  simp only [Instr.sliceBounds, bd0, Option.map_some, Option.map_none, Sem.run_bind, Sem.run_pure, Result.andThen_ok, Option.isSome_none, Option.isSome_some] <;>
  repeat (rw [run_sliceBound _ _ _ _ _ (by omega) (by omega)]; simp only [Result.andThen_ok])
 all_goals simp
def Tk.cut : Tk → Tk
 | .ex => .ex
 | _ => .no
def tkCut (k : Tk) (b : Bool) : Tk := if b then .no else k.cut
theorem tkCut_tk {k : Tk} {b : Bool} {t : Nat} (h : tkCut k b = .tk t) : False := by
 unfold tkCut at h
 split at h
 ·cases h
 ·cases k <;> cases h
def tkS (k : Tk) (hi mx : Option (IntKind × Int)) (d : Int) : Tk :=
 match mx with
 | none => tkCut k hi.isSome
 | some q => if bd0 hi d = q.2 then .ex else .no
theorem tkS_tk {k : Tk} {hi mx : Option (IntKind × Int)} {d : Int} {t : Nat} (h : tkS k hi mx d = .tk t) : False := by
 unfold tkS at h
 split at h
 ·exact tkCut_tk h
 ·split at h <;> cases h
def aSlice (P : Program) (t : TypeId) (x : AV) (lo hi mx : Option (IntKind × Int)) (H : Mem) (K : AV → Mem → Prop) : Prop :=
 (mx.isSome = true → hi.isSome = true) ∧
 match P.underlying t with
 | some (.slice e) =>
  (match tinf P e with
  | some (sz, _, _) =>
   (match x with
   | .sl z es k => z = sz ∧ 0 ≤ bd0 lo 0 ∧ bd0 lo 0 ≤ bd0 hi es.length ∧ bd0 hi es.length ≤ bd0 mx es.length ∧ bd0 mx es.length ≤ es.length ∧
     K (.sl z ((es.take (bd0 hi es.length).toNat).drop (bd0 lo 0).toNat) (tkS k hi mx es.length)) H
   | .hs id off len mc s => s = sz ∧ 0 ≤ bd0 lo 0 ∧ bd0 lo 0 ≤ bd0 hi len ∧ bd0 hi len ≤ bd0 mx mc ∧ bd0 mx mc ≤ mc ∧
     K (.hs id (off + (bd0 lo 0).toNat * sz) ((bd0 hi len).toNat - (bd0 lo 0).toNat) ((bd0 mx mc).toNat - (bd0 lo 0).toNat) s) H
   | .sc (.slice none 0 0) => bd0 lo 0 = 0 ∧ bd0 hi 0 = 0 ∧ bd0 mx 0 = 0 ∧ K (.sc (.slice none 0 0)) H
   | _ => False)
  | none => False)
 | some (.array n e) =>
  (match tinf P e with
  | some (sz, _, _) =>
   (match x with
   | .pt id off => mx = none ∧ 0 ≤ bd0 lo 0 ∧ bd0 lo 0 ≤ bd0 hi n ∧ bd0 hi n ≤ n ∧ bd0 lo 0 < n ∧ (match H[id]? with | some (.cells cs) => cs ≠ [] ∧ off + n * sz ≤ cs.length | _ => False) ∧
     K (.hs id (off + (bd0 lo 0).toNat * sz) ((bd0 hi n).toNat - (bd0 lo 0).toNat) (n - (bd0 lo 0).toNat) sz) H
   | _ => False)
  | none => False)
 | some .string =>
  (match x with
  | .sc (.string s) => mx = none ∧ 0 ≤ bd0 lo 0 ∧ bd0 lo 0 ≤ bd0 hi s.size ∧ bd0 hi s.size ≤ s.size ∧ K (.sc (.string (s.extract (bd0 lo 0).toNat (bd0 hi s.size).toNat))) H
  | _ => False)
 | _ => False
theorem opS_slice {t : TypeId} {x : Operand} {lo hi mx : Option Operand} {l h m : Option (IntKind × Int)} (hl : bnd fr lo = some l) (hh : bnd fr hi = some h) (hmx : bnd fr mx = some m)
  (hk : aSlice P t (aev fr x) l h m H K) : OpS P ⟨dst, .slice t x lo hi mx, ty, pos, after, guard⟩ fr H K := fun g w ev hop hm => by
 have hx := hop x (by simp [Op.operands])
 have el := bnd_spec (g := g) (n := H.length) (ev := ev) hl fun y e => hop y (by subst e; simp [Op.operands])
 have eh := bnd_spec (g := g) (n := H.length) (ev := ev) hh fun y e => hop y (by subst e; simp [Op.operands])
 have em := bnd_spec (g := g) (n := H.length) (ev := ev) hmx fun y e => hop y (by subst e; simp [Op.operands])
 obtain ⟨hmh, hk⟩ := hk
 have go : ∀ u, (Instr.sliceAt t (ev x) (l.map fun p => Value.int p.1 p.2) (h.map fun p => Value.int p.1 p.2) (m.map fun p => Value.int p.1 p.2)).run P w = .ok u w →
   (execOp ev ⟨dst, .slice t x lo hi mx, ty, pos, after, guard⟩).run P w = .ok (.value u) w := fun u hu => by
  simp only [execOp, el, eh, em, Sem.run_bind, hu, Result.andThen_ok, Sem.run_pure]
 generalize aev fr x = ax at *
 generalize ev x = vx at *
 split at hk
 ·rename_i e ht
  cases hti : tinf P e with
  | none => rw [hti] at hk; exact hk.elim
  | some q =>
   obtain ⟨sz, by_, zz⟩ := q
   rw [hti] at hk
   have ht' : P.underlying t = some (.slice (P.elem t)) := by simp only [Program.elem, ht]
   have hel : P.elem t = e := by simp only [Program.elem, ht]
   have run : ∀ (a : Option Addr) (len cap : Nat), 0 ≤ bd0 l 0 → bd0 l 0 ≤ bd0 h len → bd0 h len ≤ bd0 m cap → bd0 m cap ≤ cap →
     (Instr.sliceAt t (.slice a len cap) (l.map fun p => Value.int p.1 p.2) (h.map fun p => Value.int p.1 p.2) (m.map fun p => Value.int p.1 p.2)).run P w = .ok (sliced a (bd0 l 0).toNat (bd0 h len).toNat (bd0 m cap).toNat sz) w := fun a len cap h0 h1 h2 h3 => by
    rw [run_sliceAt_slice w t _ _ _ _ ht', run_slice_any w t a len cap ht', run_bounds hmh h0 h1 h2 h3, Result.andThen_ok, hel, run_sizeOf hti, Result.andThen_ok]
   cases hx with
   | nil z =>
    obtain ⟨rfl, h0, h1, h2, h3, hk⟩ := hk
    simp only [List.length_nil] at h1 h2 h3
    have z1 : bd0 l 0 = 0 := by omega
    have z2 : bd0 h ((0 : Nat) : Int) = 0 := by omega
    have z3 : bd0 m ((0 : Nat) : Int) = 0 := by omega
    rw [go _ (run none 0 0 h0 h1 h2 h3), z1, z2, z3]
    simp only [List.take_nil, List.drop_nil] at hk
    exact sr_here hm (.nil z _ (fun t e => (tkS_tk e).elim)) hk
   | sl z es k a cap f hsp hcap hz hrow hkk =>
    obtain ⟨rfl, h0, h1, h2, h3, hk⟩ := hk
    have q2 : bd0 h es.length ≤ bd0 m cap := by cases m <;> simp only [bd0] at * <;> omega
    have q3 : bd0 m cap ≤ cap := by cases m <;> simp only [bd0] at * <;> omega
    rw [go _ (run (some a) es.length cap h0 h1 q2 q3)]
    generalize hb1 : bd0 l 0 = b1 at *
    generalize hb2 : bd0 h es.length = b2 at *
    generalize hb3 : bd0 m cap = b3 at *
    have hlen : ((es.take b2.toNat).drop b1.toNat).length = b2.toNat - b1.toNat := by simp; omega
    unfold sliced
    refine sr_here hm ?_ hk
    have key : ∀ (ad : Addr), (b3.toNat - b1.toNat = 0 ∨ ad.spot = none) → ad.block = a.block → (ad.off = a.off + b1.toNat * z ∨ b2.toNat ≤ b1.toNat) → ∀ k', (k' = .no ∨ (k' = .ex ∧ b3.toNat - b1.toNat = b2.toNat - b1.toNat)) →
      VR g H.length (.sl z ((es.take b2.toNat).drop b1.toNat) k') (.slice (some ad) (b2.toNat - b1.toNat) (b3.toNat - b1.toNat)) := fun ad s1 s2 s3 k' hk' => by
     rw [← hlen]
     refine .sl z _ k' ad _ (fun j => f (b1.toNat * z + j)) s1 (by omega) (fun e he => hz e (List.mem_of_mem_take (List.mem_of_mem_drop he))) ?_ ?_
     ·rcases s3 with s3 | s3
      ·rw [s2, s3, flatten_drop (fun e he => hz e (List.mem_of_mem_take he)), flatten_take hz]
       exact (hrow.take _).drop _
      ·have : (es.take b2.toNat).drop b1.toNat = [] := List.drop_eq_nil_of_le (by simp; omega)
       rw [this]; intro j p hj; simp at hj
     ·rcases hk' with rfl | ⟨rfl, e⟩
      ·trivial
      ·simp only [Tk.ok]; omega
    have hk'' : tkS k h m es.length = .no ∨ (tkS k h m es.length = .ex ∧ b3.toNat - b1.toNat = b2.toNat - b1.toNat) := by
     cases m with
     | some q =>
      simp only [tkS]
      split
      ·rename_i e
       right
       refine ⟨rfl, ?_⟩
       simp only [bd0] at hb3
       rw [hb2] at e; omega
      ·exact .inl rfl
     | none =>
     simp only [tkS]
     cases k with
     | ex =>
      cases h with
      | none =>
       right
       refine ⟨rfl, ?_⟩
       simp only [Tk.ok] at hkk
       simp only [bd0] at hb2 hb3
       omega
      | some _ => exact .inl rfl
     | no => left; unfold tkCut; split <;> rfl
     | tk t => left; unfold tkCut; split <;> rfl
    by_cases hml : b3.toNat = b1.toNat
    ·rw [if_pos hml]
     exact key a (.inl (by omega)) rfl (.inr (by omega)) _ hk''
    ·rw [if_neg hml]
     simp only [Option.map_some]
     rw [add_plain (hsp.resolve_left (by omega))]
     exact key ⟨a.block, a.off + b1.toNat * z, none⟩ (.inr rfl) rfl (.inl rfl) _ hk''
   | hs id off len mc s cap hid hll hmc hcap =>
    obtain ⟨rfl, h0, h1, h2, h4, hk⟩ := hk
    have q2 : bd0 h len ≤ bd0 m (cap : Int) ∧ bd0 m (cap : Int) ≤ cap ∧ bd0 m (mc : Int) ≤ bd0 m (cap : Int) := by cases m <;> simp only [bd0] at * <;> omega
    rw [go _ (run _ len cap h0 h1 q2.1 q2.2.1)]
    generalize hb1 : bd0 l 0 = b1 at *
    generalize hb2 : bd0 h len = b2 at *
    generalize hb3 : bd0 m (cap : Int) = b3 at *
    generalize hb4 : bd0 m (mc : Int) = b4 at *
    unfold sliced
    by_cases hml : b3.toNat = b1.toNat
    ·rw [if_pos hml]
     refine sr_here hm ?_ hk
     rw [show b2.toNat - b1.toNat = 0 by omega, show b4.toNat - b1.toNat = 0 by omega, show b3.toNat - b1.toNat = 0 by omega]
     exact .hn id _ s _ hid
    rw [if_neg hml]
    simp only [Option.map_some]
    rw [add_plain rfl]
    refine sr_here hm ?_ hk
    have := VR.hs (g := g) id (off + b1.toNat * s) (b2.toNat - b1.toNat) (b4.toNat - b1.toNat) s (b3.toNat - b1.toNat) hid (by omega) (by omega) (by
     have e : b3.toNat * s = b1.toNat * s + (b3.toNat - b1.toNat) * s := by rw [← Nat.add_mul]; congr 1; omega
     have := Nat.mul_le_mul_right s (show b3.toNat ≤ cap by omega)
     omega)
    rw [← Nat.add_assoc] at this
    simpa using this
   | hn id off s a hid =>
    obtain ⟨rfl, h0, h1, h2, h4, hk⟩ := hk
    have z1 : bd0 l 0 = 0 := by omega
    have z2 : bd0 h ((0 : Nat) : Int) = 0 := by omega
    have z3 : bd0 m ((0 : Nat) : Int) = 0 := by omega
    rw [go _ (run a 0 0 h0 h1 h2 h4), z1, z2, z3]
    rw [z1, z2, z3] at hk
    refine sr_here hm ?_ hk
    exact .hn id _ s a hid
   | sc =>
    simp only at hk
    split at hk
    ·rename_i e
     cases e
    ·rename_i e
     cases e
    ·rename_i e
     cases e
     obtain ⟨z1, z2, z3, hk⟩ := hk
     rw [go _ (run none 0 0 (by omega) (by simpa [z1] using Int.le_of_eq z2.symm) (by simp [z2, z3]) (by simp [z3]))]
     have e1 : bd0 h ((0 : Nat) : Int) = 0 := z2
     have e2 : bd0 m ((0 : Nat) : Int) = 0 := z3
     rw [z1, e1, e2]
     exact sr_here hm (.sc _) hk
    ·exact hk.elim
   | _ => exact hk.elim
 ·rename_i n e ht
  cases hti : tinf P e with
  | none => rw [hti] at hk; exact hk.elim
  | some q =>
   obtain ⟨sz, by_, zz⟩ := q
   rw [hti] at hk
   cases hx with
   | pt id off hid =>
    obtain ⟨rfl, h0, h1, h2, h4, h5, hk⟩ := hk
    have hr : (Instr.sliceAt t (.pointer (some ⟨(g.mu id).b, (g.mu id).o + off, none⟩)) (l.map fun p => Value.int p.1 p.2) (h.map fun p => Value.int p.1 p.2) ((none : Option (IntKind × Int)).map fun p => Value.int p.1 p.2)).run P w =
      .ok (.slice (some ⟨(g.mu id).b, (g.mu id).o + off + (bd0 l 0).toNat * sz, none⟩) ((bd0 h n).toNat - (bd0 l 0).toNat) (n - (bd0 l 0).toNat)) w := by
     simp only [Instr.sliceAt, Sem.run_bind, run_underlying ht, Result.andThen_ok, Instr.sureAddr, Sem.run_pure]
     rw [run_bounds (mx := none) (fun e => by cases e) h0 h1 (by simpa [bd0] using h2) (by simp [bd0])]
     rw [show bd0 (none : Option (IntKind × Int)) (n : Int) = n from rfl]
     simp only [Result.andThen_ok, run_sizeOf hti]
     rw [if_neg (by omega), add_plain rfl]
     simp
    rw [go _ hr]
    refine sr_here hm ?_ hk
    cases he : H[id]? with
    | none => rw [he] at h5; exact h5.elim
    | some en =>
     rw [he] at h5
     cases en with
     | cells cs =>
      simp only at h5
      obtain ⟨hne, h5⟩ := h5
      obtain ⟨_, _, g3, _, _⟩ := hm.owned he (.inl hne)
      have := VR.hs (g := g) id (off + (bd0 l 0).toNat * sz) ((bd0 h n).toNat - (bd0 l 0).toNat) (n - (bd0 l 0).toNat) sz (n - (bd0 l 0).toNat) hid (by omega) (by omega) (by
       have e : n * sz = (bd0 l 0).toNat * sz + (n - (bd0 l 0).toNat) * sz := by rw [← Nat.add_mul]; congr 1; omega
       omega)
      rw [← Nat.add_assoc] at this
      exact this
     | _ => exact h5.elim
   | _ => exact hk.elim
 ·rename_i ht
  cases hx with
  | sc =>
   cases vx with
   | string s =>
    obtain ⟨rfl, h0, h1, h2, hk⟩ := hk
    have hr : (Instr.sliceAt t (.string s) (l.map fun p => Value.int p.1 p.2) (h.map fun p => Value.int p.1 p.2) ((none : Option (IntKind × Int)).map fun p => Value.int p.1 p.2)).run P w = .ok (.string (s.extract (bd0 l 0).toNat (bd0 h s.size).toNat)) w := by
     rw [run_sliceAt_string w t _ _ _ _ ht]
     have hb := run_bounds (P := P) (isSl := false) (len := s.size) (cap := s.size) (lo := l) (hi := h) (mx := none) (fun e => by cases e) h0 h1 (by simpa [bd0] using h2) (by simp [bd0]) w
     simp only [Option.map_none] at hb
     simp only [Instr.slice, Sem.run_bind, run_underlying ht, Result.andThen_ok, Option.map_none, Option.isSome_none, Bool.false_eq_true, if_false, hb, Sem.run_pure]
    rw [go _ hr]
    exact sr_here hm (.sc _) hk
   | _ => exact hk.elim
  | _ => exact hk.elim
 ·exact hk.elim
def afill (place : Nat → Option (Nat × Nat)) (cells : List AV) : List (Nat × AV) → Option (List AV)
 | [] => some cells
 | (i, v) :: rest =>
  match place i with
  | none => none
  | some (off, size) => if v.flat = true ∧ v.cells.length = size ∧ off + v.cells.length ≤ cells.length then afill place (setAt cells off v.cells) rest else none
theorem zipIdx_fold (vs : List Value) (off k : Nat) (c : Array Value) : (vs.zipIdx k).foldl (fun cs (p : Value × Nat) => cs.setIfInBounds (off + p.2) p.1) c = updA c (off + k) vs := by
 induction vs generalizing c k with
 | nil => rfl
 | cons v vs ih => rw [List.zipIdx_cons, List.foldl_cons, ih]; rfl
theorem fill_rel {g : Gh} {n : Nat} {place : Nat → Option (Nat × Nat)} : ∀ (ps : List (Nat × AV)) (vs : List (Nat × Value)) (acs : List AV) (c : Array Value) (r : List AV), ps.length = vs.length →
  (∀ (j : Nat) p q, ps[j]? = some p → vs[j]? = some q → p.1 = q.1 ∧ VR g n p.2 q.2) → VRs g n acs c → afill place acs ps = some r → ∃ c', Instr.fill place c vs = some c' ∧ VRs g n r c'
 | [], vs, acs, c, r, hl, _, hc, h => by
  cases vs with
  | nil => simp only [afill, Option.some.injEq] at h; subst h; exact ⟨c, rfl, hc⟩
  | cons v vs => simp at hl
 | (i, a) :: ps, vs, acs, c, r, hl, hv, hc, h => by
  cases vs with
  | nil => simp at hl
  | cons q vs =>
   obtain ⟨i', v⟩ := q
   obtain ⟨e, hav⟩ := hv 0 _ _ rfl rfl
   simp only at e hav
   subst e
   simp only [afill] at h
   cases hp : place i with
   | none => rw [hp] at h; cases h
   | some os =>
    obtain ⟨off, size⟩ := os
    rw [hp] at h
    simp only at h
    split at h
    ·rename_i hc3
     obtain ⟨hf, h1, h2⟩ := hc3
     have hcells := hav.cells hf
     have hs := hcells.1
     have hcs := hc.1
     have hupd : VRs g n (setAt acs off a.cells) (updA c off v.cells.toList) := by
      refine ⟨by rw [updA_size, setAt_length]; exact hcs, fun j b hb => ?_⟩
      obtain ⟨u, h3, h4⟩ := setAt_rel (m := 0) (c := c) (fun i a ha => by rw [Nat.zero_add]; exact hc.get ha) (show VRs g n a.cells v.cells.toList.toArray by simpa using hcells) (by omega) (by omega) j b hb
      rw [Nat.zero_add, Nat.zero_add] at h3
      rw [Array.getD_eq_getD_getElem?, h3]; exact h4
     obtain ⟨c', h5, h6⟩ := fill_rel ps vs _ _ r (by simpa using hl) (fun j p q e1 e2 => hv (j + 1) p q e1 e2) hupd h
     refine ⟨c', ?_, h6⟩
     simp only [Instr.fill, hp]
     have hn : ¬ (v.cells.size ≠ size ∨ off + v.cells.size > c.size) := by omega
     have : (decide (v.cells.size ≠ size) || decide (off + v.cells.size > c.size)) = false := by simp; omega
     simp only [this, Bool.false_eq_true, if_false]
     have hz : (v.cells.zipIdx.foldl (fun cs (p : Value × Nat) => cs.setIfInBounds (off + p.2) p.1) c) = updA c off v.cells.toList := by
      have := zipIdx_fold v.cells.toList off 0 c
      rw [Nat.add_zero] at this
      rw [← this]
      rw [← Array.foldl_toList, Array.toList_zipIdx]
     rw [hz]
     exact h5
    ·cases h
theorem parts_rel {g : Gh} {n : Nat} {ev : Operand → Value} (ps : Array (Nat × Operand)) (h : ∀ p, p ∈ ps.toList → VR g n (aev fr p.2) (ev p.2)) :
  ∀ (j : Nat) p q, (ps.toList.map fun x => (x.1, aev fr x.2))[j]? = some p → ((ps.map fun x => (x.1, ev x.2)).toList)[j]? = some q → p.1 = q.1 ∧ VR g n p.2 q.2 := by
 intro j p q h1 h2
 rw [List.getElem?_map] at h1
 rw [Array.toList_map, List.getElem?_map] at h2
 cases hj : ps.toList[j]? with
 | none => rw [hj] at h1; cases h1
 | some x =>
  rw [hj] at h1 h2
  simp only [Option.map_some, Option.some.injEq] at h1 h2
  subst h1; subst h2
  exact ⟨rfl, h x (List.mem_of_getElem? hj)⟩
def fplace (P : Program) (fs : Array Field) (i : Nat) : Option (Nat × Nat) :=
 match fs[i]? with
 | some f => (match tinf P f.type with | some q => some (f.offset, q.1) | none => none)
 | none => none
def aBuild (P : Program) (t : TypeId) (ps : List (Nat × AV)) (K : AV → Prop) : Prop :=
 match tinf P t, P.underlying t with
 | some (_, _, some z), some (.struct fs) =>
  (match afill (fplace P fs) (zeroCs z) ps with
  | some cs => fs.all (fun f => (tinf P f.type).isSome) = true ∧ K (.ag cs)
  | none => False)
 | some (_, _, some z), some (.array _ e) =>
  (match tinf P e with
  | some (sz, _, _) => (match afill (fun i => some (i * sz, sz)) (zeroCs z) ps with | some cs => K (.ag cs) | none => False)
  | none => False)
 | _, _ => False
theorem run_places {fs : Array Field} (h : fs.all (fun f => (tinf P f.type).isSome) = true) (w : World) :
  ∃ pl : Array (Nat × Nat), (fs.mapM (m := Sem) fun f => do pure (f.offset, ← sizeOf f.type)).run P w = .ok pl w ∧ ∀ i : Nat, pl[i]? = fplace P fs i := by
 have : ∀ (l : List Field), (l.all fun f => (tinf P f.type).isSome) = true → ∃ pl : List (Nat × Nat), (l.mapM (m := Sem) fun f => do pure (f.offset, ← sizeOf f.type)).run P w = .ok pl w ∧ ∀ i : Nat, pl[i]? = fplace P l.toArray i := by
  intro l
  induction l with
  | nil => intro _; exact ⟨[], by simp, fun i => by simp [fplace]⟩
  | cons f l ih =>
   intro hl
   simp only [List.all_cons, Bool.and_eq_true] at hl
   obtain ⟨pl, h1, h2⟩ := ih hl.2
   cases hq : tinf P f.type with
   | none => rw [hq] at hl; cases hl.1
   | some q =>
    obtain ⟨sz, b, z⟩ := q
    refine ⟨(f.offset, sz) :: pl, ?_, fun i => ?_⟩
    ·rw [List.mapM_cons, Sem.run_bind]
     rw [show (do pure (f.offset, ← sizeOf f.type) : Sem (Nat × Nat)).run P w = .ok (f.offset, sz) w from by simp only [Sem.run_bind, run_sizeOf hq, Result.andThen_ok, Sem.run_pure]]
     rw [Result.andThen_ok, Sem.run_bind, h1]
     rfl
    ·cases i with
     | zero => simp [fplace, hq]
     | succ i => have := h2 i; simp only [fplace] at this ⊢; simpa using this
 obtain ⟨pl, h1, h2⟩ := this fs.toList (by rw [← Array.all_toList] at h; exact h)
 refine ⟨pl.toArray, ?_, fun i => by rw [List.getElem?_toArray, h2]⟩
 rw [Array.mapM_eq_mapM_toList, Sem.run_map, h1]
 rfl
theorem opS_build {t : TypeId} {ps : Array (Nat × Operand)} (h : aBuild P t (ps.toList.map fun x => (x.1, aev fr x.2)) fun r => K r H) : OpS P ⟨dst, .build t ps, ty, pos, after, guard⟩ fr H K := fun g w ev hop hm => by
 have hps : ∀ p, p ∈ ps.toList → VR g H.length (aev fr p.2) (ev p.2) := fun p hp => hop p.2 (by
  simp only [Op.operands, List.mem_toArray, List.mem_map]
  exact ⟨p, hp, rfl⟩)
 have hrel := parts_rel (fr := fr) ps hps
 unfold aBuild at h
 split at h
 ·rename_i sz b z fs hti hs
  split at h
  ·rename_i cs hfill
   obtain ⟨hall, hk⟩ := h
   obtain ⟨pl, h1, h2⟩ := run_places hall w
   obtain ⟨c', h3, h4⟩ := fill_rel _ _ _ _ _ (by simp) hrel (VRs_zero z) hfill
   have hpl : (fun i : Nat => pl[i]?) = fplace P fs := funext h2
   have : (execOp ev ⟨dst, .build t ps, ty, pos, after, guard⟩).run P w = .ok (.value (.agg c')) w := by
    simp only [execOp, Instr.build]
    rw [Sem.run_bind, Sem.run_bind, run_zeroValue hti, Result.andThen_ok, Sem.run_bind, run_underlying hs, Result.andThen_ok]
    simp only
    rw [Sem.run_bind, h1, Result.andThen_ok, hpl, h3]
    rfl
   rw [this]
   exact sr_here hm (.ag _ _ h4.1 h4.2) hk
  ·exact h.elim
 ·rename_i sz b z n e hti hs
  cases he : tinf P e with
  | none => rw [he] at h; exact h.elim
  | some q =>
   obtain ⟨se, be, ze⟩ := q
   rw [he] at h
   simp only at h
   split at h
   ·rename_i cs hfill
    obtain ⟨c', h3, h4⟩ := fill_rel _ _ _ _ _ (by simp) hrel (VRs_zero z) hfill
    have : (execOp ev ⟨dst, .build t ps, ty, pos, after, guard⟩).run P w = .ok (.value (.agg c')) w := by
     simp only [execOp, Instr.build, Sem.run_bind, run_zeroValue hti, Result.andThen_ok, run_underlying hs, run_sizeOf he]
     rw [h3]
     rfl
    rw [this]
    exact sr_here hm (.ag _ _ h4.1 h4.2) h
   ·exact h.elim
 ·exact h.elim
end
end Go.Proofs.YtaaamoicidfgcaaGreat.Am
namespace Go.Proofs.YtaaamoicidfgcaaGreat.Am
open Go
def AV.pv : AV → Option PV
 | .sc v => if v.oneCell' then some (.sc v) else none
 | .sl z es _ => some (.sl z es)
 | _ => none
theorem PR.of_pv {g : Gh} {n : Nat} {a : AV} {p : PV} {v : Value} (h : VR g n a v) (hp : a.pv = some p) : PR g.ro p v := by
 cases h with
 | sc v =>
  simp only [AV.pv] at hp
  split at hp
  ·rename_i h1; cases hp; exact .sc _ h1
  ·cases hp
 | nil z => cases hp; exact .nil z
 | sl z es k a cap f hsp hcap hz hrow hk => cases hp; exact PR.of_VR (.sl z es k a cap f hsp hcap hz hrow hk)
 | _ => cases hp
def chunk {α : Type} (z : Nat) : Nat → List α → List (List α)
 | 0, _ => []
 | n + 1, l => l.take z :: chunk z n (l.drop z)
theorem chunk_length {α : Type} (z n : Nat) (l : List α) : (chunk z n l).length = n := by
 induction n generalizing l with
 | zero => rfl
 | succ n ih => simp [chunk, ih]
theorem chunk_mem {α : Type} (z n : Nat) (l : List α) (h : l.length = n * z) : ∀ e, e ∈ chunk z n l → e.length = z := by
 induction n generalizing l with
 | zero => intro e he; cases he
 | succ n ih =>
  intro e he
  rw [Nat.succ_mul] at h
  simp only [chunk, List.mem_cons] at he
  rcases he with rfl | he
  ·simp; omega
  ·exact ih (l.drop z) (by simp; omega) e he
theorem chunk_flatten {α : Type} (z n : Nat) (l : List α) (h : l.length = n * z) : (chunk z n l).flatten = l := by
 induction n generalizing l with
 | zero => simp at h; subst h; rfl
 | succ n ih =>
  rw [Nat.succ_mul] at h
  simp only [chunk, List.flatten_cons]
  rw [ih (l.drop z) (by simp; omega), List.take_append_drop]
theorem mapM_pv {g : Gh} {n : Nat} : ∀ {cs : List AV} {ps : List PV} {c : Array Value}, cs.mapM AV.pv = some ps → VRs g n cs c → ps.length = cs.length ∧ ∀ (k : Nat) p, ps[k]? = some p → ∃ v, c[k]? = some v ∧ PR g.ro p v := by
 intro cs ps c h hv
 have key : ∀ (cs : List AV) (ps : List PV), cs.mapM AV.pv = some ps → ps.length = cs.length ∧ ∀ (k : Nat) p, ps[k]? = some p → ∃ a, cs[k]? = some a ∧ a.pv = some p := by
  intro cs
  induction cs with
  | nil => intro ps h; simp at h; subst h; exact ⟨rfl, fun k p hk => by simp at hk⟩
  | cons a cs ih =>
   intro ps h
   rw [List.mapM_cons] at h
   cases ha : a.pv with
   | none => rw [ha] at h; cases h
   | some p =>
    rw [ha] at h
    cases hr : cs.mapM AV.pv with
    | none => rw [hr] at h; cases h
    | some qs =>
     rw [hr] at h
     cases h
     obtain ⟨h1, h2⟩ := ih qs hr
     refine ⟨by simp [h1], fun k q hk => ?_⟩
     cases k with
     | zero => simp at hk; subst hk; exact ⟨a, rfl, ha⟩
     | succ k => exact h2 k q hk
 obtain ⟨h1, h2⟩ := key cs ps h
 refine ⟨h1, fun k p hk => ?_⟩
 obtain ⟨a, h3, h4⟩ := h2 k p hk
 obtain ⟨v, h5, h6⟩ := hv.get h3
 exact ⟨v, h5, PR.of_pv h6 h4⟩
section rows
variable {P : Program} {g : Gh} {H : Mem} {w w1 : World} {K : AV → Mem → Prop} {c : Array Value} {e : TypeId} {frz : Nat × Nat} {z : Nat} {es : List (List PV)} {cap : Nat}
theorem row_new (hm : MR g H w) (hp : Push w w1 c e frz) (hv : ∀ (k : Nat) p, es.flatten[k]? = some p → ∃ v, c[k]? = some v ∧ PR g.ro p v) (g' : Gh) (hro : g'.ro = (g.addR w.heap.size es.flatten.length c).ro) :
  Row g'.ro w.heap.size 0 es.flatten (fun k => c.getD k undef) := by
 intro k p hk
 obtain ⟨v, h1, h2⟩ := hv k p hk
 have hl := lt_of_get hk
 have e : c.getD k undef = v := by rw [Array.getD_eq_getD_getElem?, h1]; rfl
 show g'.ro w.heap.size (0 + k) = some (c.getD k undef) ∧ PR g'.ro p (c.getD k undef)
 rw [e, hro]
 refine ⟨by simp only [Gh.addR]; rw [if_pos ⟨trivial, by omega⟩, Nat.zero_add]; exact h1, h2.mono fun b o v h => ?_⟩
 exact (hm.push_ro hp es.flatten.length).2.gle.ro b o v h
theorem new_row (hm : MR g H w) (hp : Push w w1 c e frz) (hz : ∀ x, x ∈ es → x.length = z) (hv : ∀ (k : Nat) p, es.flatten[k]? = some p → ∃ v, c[k]? = some v ∧ PR g.ro p v) (hlen : es.length ≤ cap)
  {k : Tk} (hk : k = .no ∨ (k = .ex ∧ cap = es.length)) (h : K (.sl z es k) H) : Ls P (SR H.length g w K) (.ok (.value (.slice (some ⟨w.heap.size, 0, none⟩) es.length cap)) w1) := by
 obtain ⟨h1, h2⟩ := hm.push_ro hp es.flatten.length
 refine ⟨_, _, _, h, .sl z es k ⟨w.heap.size, 0, none⟩ cap _ (.inr rfl) hlen hz (row_new hm hp hv _ rfl) ?_, h1, h2, Nat.le_refl _⟩
 rcases hk with rfl | ⟨rfl, e⟩
 ·trivial
 ·exact e
theorem new_tok (hm : MR g H w) (hp : Push w w1 c e frz) (hfr : ∀ o, o < c.size → (decide (frz.1 ≤ o) && decide (o < frz.2)) = false) (hz : ∀ x, x ∈ es → x.length = z)
  (hv : ∀ (k : Nat) p, es.flatten[k]? = some p → ∃ v, c[k]? = some v ∧ PR g.ro p v) (hlen : es.length ≤ cap) (hcap : c.size = cap * z) (h : K (.sl z es (.tk H.length)) (H ++ [.tok])) :
  Ls P (SR H.length g w K) (.ok (.value (.slice (some ⟨w.heap.size, 0, none⟩) es.length cap)) w1) := by
 obtain ⟨h1, h2⟩ := hm.push_tok hp hfr es.flatten.length
 refine ⟨_, _, _, h, .sl z es _ ⟨w.heap.size, 0, none⟩ cap _ (.inr rfl) hlen hz (row_new hm hp hv ((g.addR w.heap.size es.flatten.length c).addE H.length ⟨w.heap.size, es.flatten.length, c.size⟩) rfl) ?_, h1, h2, by simp⟩
 refine ⟨by simp, ?_⟩
 simp only [Gh.addE, if_true, Pl.mk.injEq]
 exact .inr ⟨trivial, by rw [flatten_length hz]; omega, by omega⟩
theorem new_hs (hm : MR g H w) (hp : Push w w1 c e frz) (hfr : ∀ o, o < c.size → (decide (frz.1 ≤ o) && decide (o < frz.2)) = false) {acs : List AV} {len : Nat} (hle : acs.length ≤ c.size)
  (hv : ∀ (i : Nat) a, acs[i]? = some a → ∃ v, c[i]? = some v ∧ VR g H.length a v) (hlen : len ≤ cap) (hcap : cap * z ≤ c.size) (h : K (.hs H.length 0 len len z) (H ++ [.cells acs])) :
  Ls P (SR H.length g w K) (.ok (.value (.slice (some ⟨w.heap.size, 0, none⟩) len cap)) w1) := by
 obtain ⟨h1, h2⟩ := hm.push_cells hp hfr hle hv
 refine ⟨_, _, _, h, ?_, h1, h2, by simp⟩
 have := VR.hs (g := g.addE H.length ⟨w.heap.size, 0, c.size⟩) (n := (H ++ [Ent.cells acs]).length) H.length 0 len len z cap (by simp) (Nat.le_refl _) hlen (by simp [Gh.addE]; exact hcap)
 simpa [Gh.addE] using this
end rows
def azeros (zc : List AV) : Nat → List AV
 | 0 => []
 | n + 1 => zc ++ azeros zc n
theorem azeros_length (zc : List AV) (n : Nat) : (azeros zc n).length = n * zc.length := by
 induction n with
 | zero => simp [azeros]
 | succ n ih => rw [azeros, List.length_append, ih, Nat.succ_mul]; omega
theorem azeros_get (zc : List AV) (n k : Nat) (h : k < n * zc.length) : (azeros zc n)[k]? = zc[k % zc.length]? := by
 induction n generalizing k with
 | zero => simp at h
 | succ n ih =>
  rw [Nat.succ_mul] at h
  simp only [azeros]
  rcases Nat.lt_or_ge k zc.length with hk | hk
  ·rw [List.getElem?_append_left hk, Nat.mod_eq_of_lt hk]
  ·rw [List.getElem?_append_right hk, ih _ (by omega)]
   congr 1
   exact (Nat.mod_eq_sub_mod hk).symm
theorem madeCells_rel {g : Gh} {n : Nat} {v : Value} {len sz : Nat} (hs : (zeroCs v).length = sz) : VRs g n (azeros (zeroCs v) len) (madeCells v.cells (len * sz)) := by
 have hsz : v.cells.size = sz := by rw [← hs]; simp [zeroCs]
 refine ⟨by rw [size_madeCells, azeros_length, hs], fun i a ha => ?_⟩
 have hi := lt_of_get ha
 rw [azeros_length] at hi
 rw [azeros_get _ _ _ hi, hs] at ha
 have h1 := (VRs_zero (g := g) (n := n) v).2 _ _ ha
 have hi' : i < len * sz := by rw [← hs]; exact hi
 have hpos : 0 < sz := by
  rcases Nat.eq_zero_or_pos sz with h0 | h0
  ·rw [h0] at hi'; simp at hi'
  ·exact h0
 have hlt : i % sz < v.cells.size := by rw [hsz]; exact Nat.mod_lt _ hpos
 have : (madeCells v.cells (len * sz)).getD i undef = v.cells.getD (i % sz) undef := by
  unfold madeCells
  rw [Array.getD_eq_getD_getElem?, Array.getElem?_map, Array.getElem?_range, if_pos hi']
  simp only [Option.map_some, Option.getD_some, hsz]
  rw [Array.getD_eq_getD_getElem?, Array.getElem?_eq_getElem hlt]
  rw [getElem!_pos v.cells _ hlt]
  rfl
 rw [this]
 exact h1
section
variable {P : Program} {fr : Frm} {H : Mem} {K : AV → Mem → Prop} {dst : Option Nat} {ty : TypeId} {pos : String} {after : Array Edge} {guard : Option (Nat × Bool)}
def aBuildSlice (P : Program) (m : Nat) (t : TypeId) (len : Nat) (ps : List (Nat × AV)) (H : Mem) (K : AV → Mem → Prop) : Prop :=
 match P.underlying t with
 | some (.slice e) =>
  (match tinf P e with
  | some (sz, _, some z) => (zeroCs z).length = sz ∧ len * sz ≤ 16777216 ∧
   (match afill (fun i => some (i * sz, sz)) (azeros (zeroCs z) len) ps with
   | some cs =>
    (match m with
    | 0 => (match cs.mapM AV.pv with | some pcs => K (.sl sz (chunk sz len pcs) .ex) H | none => False)
    | _ => K (.hs H.length 0 len len sz) (H ++ [.cells cs]))
   | none => False)
  | _ => False)
 | _ => False
theorem afill_length {place : Nat → Option (Nat × Nat)} : ∀ (ps : List (Nat × AV)) (cs r : List AV), afill place cs ps = some r → r.length = cs.length
 | [], cs, r, h => by simp only [afill, Option.some.injEq] at h; rw [h]
 | (i, a) :: ps, cs, r, h => by
  simp only [afill] at h
  split at h
  ·cases h
  ·split at h
   ·rw [afill_length ps _ r h, setAt_length]
   ·cases h
theorem opS_buildSlice {t : TypeId} {len : Nat} {ps : Array (Nat × Operand)} (m : Nat) (h : aBuildSlice P m t len (ps.toList.map fun x => (x.1, aev fr x.2)) H K) : OpS P ⟨dst, .buildSlice t len ps, ty, pos, after, guard⟩ fr H K := fun g w ev hop hm => by
 have hps : ∀ p, p ∈ ps.toList → VR g H.length (aev fr p.2) (ev p.2) := fun p hp => hop p.2 (by
  simp only [Op.operands, List.mem_toArray, List.mem_map]
  exact ⟨p, hp, rfl⟩)
 have hrel := parts_rel (fr := fr) ps hps
 unfold aBuildSlice at h
 split at h
 ·rename_i e ht
  split at h
  ·rename_i sz b z hti
   obtain ⟨hzc, hle, h⟩ := h
   split at h
   ·rename_i cs hfill
    obtain ⟨c', h3, h4⟩ := fill_rel _ _ _ _ _ (by simp) hrel (madeCells_rel (g := g) (n := H.length) (v := z) (len := len) hzc) hfill
    have hcl : cs.length = len * sz := by rw [afill_length _ _ _ hfill, azeros_length, hzc]
    have hp : Push w (w.alloc (.cells c' e)) c' e (0, 0) := ⟨rfl, rfl, rfl, rfl⟩
    have : (execOp ev ⟨dst, .buildSlice t len ps, ty, pos, after, guard⟩).run P w = .ok (.value (.slice (some ⟨w.heap.size, 0, none⟩) len len)) (w.alloc (.cells c' e)) := by
     simp only [execOp, Instr.buildSlice]
     rw [Sem.run_bind, Sem.run_bind, run_underlying ht, Result.andThen_ok]
     simp only
     rw [Sem.run_bind, run_sizeOf hti, Result.andThen_ok]
     rw [if_neg (by omega)]
     have hmade : ((Array.range (len * sz)).map fun x => z.cells[x % z.cells.size]!) = madeCells z.cells (len * sz) := rfl
     by_cases h0 : len * sz = 0
     ·have he0 : madeCells z.cells (len * sz) = ((Array.range (len * sz)).map fun x => (#[] : Array Value)[x % (#[] : Array Value).size]!) := by rw [h0]; simp [madeCells, Array.range_zero']
      rw [if_pos h0]
      simp only [Sem.run_bind, Sem.run_pure, Result.andThen_ok]
      rw [← he0, h3]
      simp only [Sem.run_bind, newRow, run_newObj, Result.andThen_ok, Sem.run_pure]
      rfl
     ·rw [if_neg h0]
      simp only [Sem.run_bind, run_zeroValue hti, Sem.run_pure, Result.andThen_ok]
      rw [hmade, h3]
      simp only [Sem.run_bind, newRow, run_newObj, Result.andThen_ok, Sem.run_pure]
      rfl
    rw [this]
    split at h
    ·split at h
     ·rename_i pcs hpv
      obtain ⟨q1, q2⟩ := mapM_pv hpv h4
      have hpl : pcs.length = len * sz := by rw [q1, hcl]
      have := new_row (P := P) (K := K) (es := chunk sz len pcs) (z := sz) (cap := len) hm hp (chunk_mem _ _ _ hpl) (by rw [chunk_flatten _ _ _ hpl]; exact q2) (by rw [chunk_length]; exact Nat.le_refl _) (.inr ⟨rfl, (chunk_length _ _ _).symm⟩) h
      rw [chunk_length] at this
      exact this
     ·exact h.elim
    ·exact new_hs hm hp (fun o _ => by simp) (Nat.le_of_eq h4.1.symm) (fun i a ha => h4.get ha) (Nat.le_refl _) (by rw [h4.1, hcl]; exact Nat.le_refl _) h
   ·exact h.elim
  ·exact h.elim
 ·exact h.elim
def aMake (P : Program) (m : Nat) (t : TypeId) (l c : AV) (H : Mem) (K : AV → Mem → Prop) : Prop :=
 match P.underlying t, l, c with
 | some (.slice e), .sc (.int _ l), .sc (.int _ c) =>
  (match tinf P e with
  | some (sz, by_, some z) => (zeroCs z).length = sz ∧ 0 ≤ l ∧ c = l ∧ by_ * l ≤ 140737488355328 ∧ l ≤ 9223372036854775807 ∧
   (match m with
   | 0 => (match (zeroCs z).mapM AV.pv with | some pcs => K (.sl sz (List.replicate l.toNat pcs) .ex) H | none => False)
   | _ => K (.hs H.length 0 l.toNat l.toNat sz) (H ++ [.cells (azeros (zeroCs z) l.toNat)]))
  | _ => False)
 | _, _, _ => False
theorem opS_makeSlice {t : TypeId} {x y : Operand} (m : Nat) (h : aMake P m t (aev fr x) (aev fr y) H K) : OpS P ⟨dst, .makeSlice t x y, ty, pos, after, guard⟩ fr H K := fun g w ev hop hm => by
 have hx := hop x (by simp [Op.operands])
 have hy := hop y (by simp [Op.operands])
 unfold aMake at h
 split at h
 ·rename_i e k1 l k2 c ht e1 e2
  rw [e1] at hx; rw [e2] at hy
  split at h
  ·rename_i sz by_ z hti
   obtain ⟨hzc, h0, rfl, hb, h63, h⟩ := h
   obtain ⟨i, hi, i1, i2, i3⟩ := tinf_info hti
   have hr := run_make (P := P) w t e i z ht hi i3 k1 k2 c c h0 (Int.le_refl _) (by rw [i2]; omega) h63
   rw [i1] at hr
   have hp : Push w (w.alloc (.cells (madeCells z.cells (c.toNat * sz)) e)) (madeCells z.cells (c.toNat * sz)) e (0, 0) := ⟨rfl, rfl, rfl, rfl⟩
   have : (execOp ev ⟨dst, .makeSlice t x y, ty, pos, after, guard⟩).run P w = .ok (.value (.slice (some ⟨w.heap.size, 0, none⟩) c.toNat c.toNat)) (w.alloc (.cells (madeCells z.cells (c.toNat * sz)) e)) := by
    simp only [execOp, Sem.run_bind, VR_sc hx, VR_sc hy, hr, Result.andThen_ok, Sem.run_pure]
   rw [this]
   have hmr := madeCells_rel (g := g) (n := H.length) (v := z) (len := c.toNat) hzc
   split at h
   ·split at h
    ·rename_i pcs hpv
     have hpl : pcs.length = sz := by
      have := mapM_pv hpv (VRs_zero (g := g) (n := H.length) z)
      rw [this.1, hzc]
     have hfl : (List.replicate c.toNat pcs).flatten.length = c.toNat * sz := by
      rw [flatten_length (z := sz) (fun e he => by rw [List.eq_of_mem_replicate he]; exact hpl), List.length_replicate]
     have := new_row (P := P) (K := K) (es := List.replicate c.toNat pcs) (z := sz) (cap := c.toNat) hm hp (fun e he => by rw [List.eq_of_mem_replicate he]; exact hpl) (fun k p hk => by
      have hlt := lt_of_get hk
      rw [hfl] at hlt
      have hpos : 0 < sz := by
       rcases Nat.eq_zero_or_pos sz with h0 | h0
       ·rw [h0] at hlt; simp at hlt
       ·exact h0
      have hkm : (List.replicate c.toNat pcs).flatten[k]? = pcs[k % sz]? := by
       have hi : (List.replicate c.toNat pcs)[k / sz]? = some pcs := by
        rw [List.getElem?_replicate, if_pos (Nat.div_lt_of_lt_mul (by rw [Nat.mul_comm]; exact hlt))]
       have := flatten_at (z := sz) (fun e he => by rw [List.eq_of_mem_replicate he]; exact hpl) hi
       have hdm : k / sz * sz + k % sz = k := by rw [Nat.mul_comm]; exact Nat.div_add_mod k sz
       have h2 : pcs[k % sz]? = (((List.replicate c.toNat pcs).flatten.drop (k / sz * sz)).take sz)[k % sz]? := by rw [← this]
       rw [h2, List.getElem?_take_of_lt (Nat.mod_lt _ hpos), List.getElem?_drop, hdm]
      rw [hkm] at hk
      obtain ⟨v, g1, g2⟩ := (mapM_pv hpv (VRs_zero (g := g) (n := H.length) z)).2 _ p hk
      refine ⟨v, ?_, g2⟩
      have hsz : z.cells.size = sz := by rw [← hzc]; simp [zeroCs]
      unfold madeCells
      rw [Array.getElem?_map, Array.getElem?_range, if_pos hlt]
      simp only [Option.map_some, hsz]
      rw [getElem!_pos z.cells _ (by rw [hsz]; exact Nat.mod_lt _ hpos)]
      rw [Array.getElem?_eq_getElem (by rw [hsz]; exact Nat.mod_lt _ hpos)] at g1
      exact g1) (by simp) (.inr ⟨rfl, by simp⟩) h
     rw [List.length_replicate] at this
     exact this
    ·exact h.elim
   ·exact new_hs hm hp (fun o _ => by simp) (Nat.le_of_eq hmr.1.symm) (fun i a ha => hmr.get ha) (Nat.le_refl _) (by rw [size_madeCells]; exact Nat.le_refl _) h
  ·exact h.elim
 ·exact h.elim
end
end Go.Proofs.YtaaamoicidfgcaaGreat.Am
namespace Go.Proofs.YtaaamoicidfgcaaGreat.Am
open Go
theorem byteRow {ro : Nat → Nat → Option Value} (l : List UInt8) (k : Nat) (p : PV) (h : (l.map encB).flatten[k]? = some p) : ∃ b, l[k]? = some b ∧ p = .sc (.int .u8 b.toNat) ∧ PR ro p (.int .u8 b.toNat) := by
 have : (l.map encB).flatten = l.map fun b => PV.sc (.int .u8 b.toNat) := by
  induction l with
  | nil => rfl
  | cons b l ih =>
   have ih' : (l.map encB).flatten = l.map fun b => PV.sc (.int .u8 b.toNat) := by
    clear h
    clear ih
    induction l with
    | nil => rfl
    | cons c l ih => rw [List.map_cons, List.flatten_cons, ih]; rfl
   rw [List.map_cons, List.flatten_cons, ih']; rfl
 rw [this, List.getElem?_map] at h
 cases hb : l[k]? with
 | none => rw [hb] at h; cases h
 | some b =>
  rw [hb] at h
  simp only [Option.map_some, Option.some.injEq] at h
  subst h
  exact ⟨b, rfl, rfl, .sc _ rfl⟩
theorem encB_length (l : List UInt8) : ∀ e, e ∈ l.map encB → e.length = 1 := by
 intro e he
 obtain ⟨b, _, rfl⟩ := List.mem_map.1 he
 rfl
def srcP (z : Nat) (x : AV) (H : Mem) : Option (List (List PV)) :=
 match x with
 | .sl z' es _ => if z' = z then some es else none
 | .sc (.slice none 0 0) => some []
 | .sc (.string s) => if z = 1 then some (s.data.toList.map encB) else none
 | .hs id off len _ s => if s = z then
   (match H[id]? with
   | some (.cells cs) => if off + len * z ≤ cs.length then (((cs.drop off).take (len * z)).mapM AV.pv).map (chunk z len) else none
   | _ => none) else none
 | _ => none
section
variable {P : Program}
theorem hs_cells {g : Gh} {H : Mem} {w : World} (hm : MR g H w) {id : Nat} {cs : List AV} (he : H[id]? = some (.cells cs)) {off n : Nat} (hl : off + n ≤ cs.length) :
  ∃ news : List Value, news.length = n ∧ (∀ (j : Nat) v, news[j]? = some v → w.cell? ⟨(g.mu id).b, (g.mu id).o + off + j, none⟩ = some v) ∧ VRs g H.length ((cs.drop off).take n) news.toArray := by
 have hent := hm.cellAt he
 have hcell : ∀ j, j < n → ∃ v, w.cell? ⟨(g.mu id).b, (g.mu id).o + (off + j), none⟩ = some v ∧ VR g H.length (cs.getD (off + j) .any) v := fun j hj => by
  obtain ⟨v, h1, h2⟩ := hent (off + j) (cs[off + j]'(by omega)) (List.getElem?_eq_getElem (by omega))
  exact ⟨v, h1, by simpa [List.getD, List.getElem?_eq_getElem (show off + j < cs.length by omega)] using h2⟩
 let f : Nat → Value := fun j => if hj : j < n then Classical.choose (hcell j hj) else undef
 have hf : ∀ j (hj : j < n), w.cell? ⟨(g.mu id).b, (g.mu id).o + (off + j), none⟩ = some (f j) ∧ VR g H.length (cs.getD (off + j) .any) (f j) := fun j hj => by
  simp only [f]; rw [dif_pos hj]; exact Classical.choose_spec (hcell j hj)
 refine ⟨(List.range n).map f, by simp, fun j v hj => ?_, by simp; omega, fun i c hc => ?_⟩
 ·have hlt := lt_of_get hj
  simp at hlt
  rw [List.getElem?_map, List.getElem?_range hlt] at hj
  simp only [Option.map_some, Option.some.injEq] at hj
  subst hj
  rw [Nat.add_assoc]; exact (hf j hlt).1
 ·have hi : i < n := by have := lt_of_get hc; simp at this; omega
  have := (hf i hi).2
  rw [List.getElem?_take_of_lt hi, List.getElem?_drop] at hc
  simp only [List.getD, hc, Option.getD_some] at this
  simpa [Array.getD_eq_getD_getElem?, hi] using this
theorem run_src {z : Nat} {x : AV} {H : Mem} {es : List (List PV)} (hs : srcP z x H = some es) {g : Gh} {w : World} {v : Value} (hm : MR g H w) (hv : VR g H.length x v) :
  (∀ e, e ∈ es → e.length = z) ∧ (∀ w', (Builtin.lenOf v).run P w' = .ok es.length w') ∧ ∃ news : List Value, news.length = es.length * z ∧
   (∀ w' : World, w'.heap = w.heap → (Builtin.firstCells z es.length v).run P w' = .ok news.toArray w') ∧ (∀ (k : Nat) p, es.flatten[k]? = some p → ∃ u, news[k]? = some u ∧ PR g.ro p u) := by
 unfold srcP at hs
 cases hv with
 | nil z' =>
  simp only at hs
  split at hs
  ·cases hs
   exact ⟨(fun e he => by cases he), fun w' => rfl, [], by simp, fun w' _ => run_firstCells_none w' _ _ _ _, fun k p hk => by simp at hk⟩
  ·cases hs
 | sl z' es' k a cap f hsp hcap hz hrow hk =>
  simp only at hs
  split at hs
  ·rename_i hzz
   subst hzz
   cases hs
   have hfl := flatten_length hz
   refine ⟨hz, fun w' => rfl, (List.range (es.length * z')).map f, by simp, fun w' hw => ?_, fun k p hk => ?_⟩
   ·refine run_firstCells_some w' z' es.length a es.length cap _ (by simp) fun j v hj => ?_
    have hlt := lt_of_get hj
    simp at hlt
    rw [List.getElem?_map, List.getElem?_range hlt] at hj
    simp only [Option.map_some, Option.some.injEq] at hj
    subst hj
    rw [add_plain (hsp.resolve_left (fun h0 => by subst h0; simp_all)), cell_of (w := w) (by rw [hw])]
    exact hm.ro _ _ _ (hrow j (es.flatten[j]'(by omega)) (List.getElem?_eq_getElem (by omega))).1
   ·have hlt := lt_of_get hk
    exact ⟨f k, by rw [List.getElem?_map, List.getElem?_range (by omega)]; rfl, (hrow k p hk).2⟩
  ·cases hs
 | sc =>
  split at hs
  ·rename_i e; cases e
  ·rename_i e
   cases e
   cases hs
   exact ⟨(fun e he => by cases he), fun w' => rfl, [], by simp, fun w' _ => run_firstCells_none w' _ _ _ _, fun k p hk => by simp at hk⟩
  ·rename_i s e
   cases e
   split at hs
   ·rename_i hz1
    subst hz1
    cases hs
    refine ⟨encB_length _, fun w' => by simp [Builtin.lenOf], s.data.toList.map fun b => Value.int .u8 b.toNat, by simp, fun w' _ => ?_, fun k p hk => ?_⟩
    ·simp only [Builtin.firstCells, Sem.run_pure, List.length_map]
     congr 1
     apply Array.ext'
     simp
    ·obtain ⟨b, h1, h2, h3⟩ := byteRow (ro := g.ro) _ k p hk
     exact ⟨_, by rw [List.getElem?_map, h1]; rfl, h3⟩
   ·cases hs
  ·rename_i e; cases e
  ·cases hs
 | hs id off len mc s cap hid hl hmc hcap =>
  simp only at hs
  split at hs
  ·rename_i hzz
   subst hzz
   split at hs
   ·rename_i cs he
    split at hs
    ·rename_i hle
     cases hpv : ((cs.drop off).take (len * s)).mapM AV.pv with
     | none => rw [hpv] at hs; cases hs
     | some ps =>
      rw [hpv] at hs
      cases hs
      obtain ⟨news, h1, h2, h3⟩ := hs_cells hm he hle
      obtain ⟨q1, q2⟩ := mapM_pv hpv h3
      have hpl : ps.length = len * s := by rw [q1]; simp; omega
      refine ⟨chunk_mem _ _ _ hpl, fun w' => by rw [chunk_length]; rfl, news, by rw [chunk_length]; exact h1, fun w' hw => ?_, fun k p hk => ?_⟩
      ·rw [chunk_length]
       refine run_firstCells_some w' s len ⟨(g.mu id).b, (g.mu id).o + off, none⟩ len cap _ h1 fun j v hj => ?_
       rw [add_plain rfl, cell_of (w := w) (by rw [hw])]
       exact h2 j v hj
      ·rw [chunk_flatten _ _ _ hpl] at hk
       obtain ⟨u, h4, h5⟩ := q2 k p hk
       exact ⟨u, by simpa using h4, h5⟩
    ·cases hs
   ·cases hs
  ·cases hs
 | hn id off s a hid =>
  have e : es = [] := by
   simp only at hs
   split at hs
   ·split at hs
    ·split at hs
     ·simp only [Nat.zero_mul, List.take_zero, List.mapM_nil] at hs
      cases hs; rfl
     ·cases hs
    ·cases hs
   ·cases hs
  subst e
  refine ⟨(fun e he => by cases he), fun w' => rfl, [], by simp, fun w' _ => ?_, fun k p hk => by simp at hk⟩
  cases a with
  | none => exact run_firstCells_none w' _ _ _ _
  | some a => exact run_firstCells_some w' z 0 a 0 0 [] (by simp) fun j v hj => by simp at hj
 | _ => cases hs
theorem run_grow {t u ty e : TypeId} {sz by_ : Nat} {zv : Value} {du : TypeDesc} (ht : P.underlying t = some (.slice e)) (hu : P.underlying u = some du) (hdu : du = .string ∨ ∃ e', du = .slice e')
  (hti : tinf P e = some (sz, by_, some zv)) (hzc : (zeroCs zv).length = sz) {base : Option Addr} {sLen sCap n : Nat} {x : Value} {w : World} {olds news : List Value}
  (hn : ∀ w', (Builtin.lenOf x).run P w' = .ok n w') (hg : sCap < sLen + n) (hfit : (sLen + n) * by_ ≤ 140737488355328) (h63 : sLen + n ≤ 9223372036854775807)
  (ho : (Builtin.firstCells sz sLen (.slice base sLen sCap)).run P w.drew = .ok olds.toArray w.drew) (hnw : (Builtin.firstCells sz n x).run P w.drew = .ok news.toArray w.drew)
  (hol : olds.length = sLen * sz) (hnl : news.length = n * sz) :
  ∃ c w1 cap, (Builtin.append_ #[t, u] ty #[.slice base sLen sCap, x]).run P w = .ok (.slice (some ⟨w.heap.size, 0, none⟩) (sLen + n) cap) w1 ∧ Push w w1 c e (0, 0) ∧ sLen + n ≤ cap ∧ c.size = cap * sz ∧
   ∀ k : Nat, k < (olds ++ news).length → c[k]? = (olds ++ news)[k]? := by
 obtain ⟨i, hi, i1, i2, i3⟩ := tinf_info hti
 have hcap : sLen + n ≤ grownCap w (sLen + n) sCap e := by unfold grownCap Question.cut; exact Nat.le_add_right _ _
 have hzs : zv.cells.size = sz := by rw [← hzc]; simp [zeroCs]
 refine ⟨olds.toArray ++ news.toArray ++ Builtin.zeroCells zv.cells (grownCap w (sLen + n) sCap e - (sLen + n)), w.drew.alloc (.cells (olds.toArray ++ news.toArray ++ Builtin.zeroCells zv.cells (grownCap w (sLen + n) sCap e - (sLen + n))) e), grownCap w (sLen + n) sCap e, ?_, ⟨rfl, rfl, rfl, rfl⟩, hcap, ?_, ?_⟩
 ·have hneed : ¬ (sLen + n ≤ sCap) := by omega
  have h63' : ¬ (9223372036854775807 < ((sLen : Int) + (n : Int))) := by omega
  have h48 := growslice_fits (bytes := by_) hg hfit
  have h48' : ¬ (281474976710656 < Builtin.nextslicecap (sLen + n) sCap * i.bytes) := by rw [i2]; omega
  have hsz : i.size = sz := i1
  rcases hdu with rfl | ⟨e', rfl⟩ <;>
   simp [Builtin.append_, run_underlying ht, run_underlying hu, sizeOf, typeInfo, zeroValue, hi, i1, i3, hn, hneed, h63', h48', Question.forced, ho, hnw, newRow, grownCap] <;>
   (congr 2; apply Array.ext'; simp [List.append_assoc])
 ·simp [hol, hnl, Builtin.zeroCells, hzs]
  rw [← Nat.add_mul, ← Nat.add_mul]
  congr 1
  omega
 ·intro k hk
  rw [Array.getElem?_append_left (by simpa using hk)]
  simp
theorem run_room {t u ty e : TypeId} {sz by_ : Nat} {zv : Option Value} {du : TypeDesc} (ht : P.underlying t = some (.slice e)) (hu : P.underlying u = some du) (hdu : du = .string ∨ ∃ e', du = .slice e')
  (hti : tinf P e = some (sz, by_, zv)) {base : Option Addr} {sLen sCap n : Nat} {x : Value} {w w1 : World} {news : List Value}
  (hn : ∀ w', (Builtin.lenOf x).run P w' = .ok n w') (hg : sLen + n ≤ sCap) (hnw : (Builtin.firstCells sz n x).run P w = .ok news.toArray w)
  (hst : ∀ a, base = some a → (storeCells (a.add (sLen * sz)) news).run P w = .ok () w1) (hno : base = none → w1 = w) :
  (Builtin.append_ #[t, u] ty #[.slice base sLen sCap, x]).run P w = .ok (.slice base (sLen + n) sCap) w1 := by
 obtain ⟨i, hi, i1, i2, i3⟩ := tinf_info hti
 cases base with
 | none =>
  have e := hno rfl
  subst e
  rcases hdu with rfl | ⟨e', rfl⟩ <;>
   simp [Builtin.append_, run_underlying ht, run_underlying hu, sizeOf, typeInfo, hi, i1, hn, hg, hnw]
 | some a =>
  have := hst a rfl
  rcases hdu with rfl | ⟨e', rfl⟩ <;>
   simp [Builtin.append_, run_underlying ht, run_underlying hu, sizeOf, typeInfo, hi, i1, hn, hg, hnw, this]
theorem b_append {a : Array TypeId} {t : TypeId} {c : Array Bool} {v : Array Value} : builtin .append a t c v = (do pure (.value (← Builtin.append_ a t v))) := rfl
theorem b_clear {a : Array TypeId} {t : TypeId} {c : Array Bool} {v : Array Value} : builtin .clear a t c v = (do pure (.value (← Builtin.clear_ a t v))) := rfl
def aFresh (m sz : Nat) (es : List (List PV)) (H : Mem) (K : AV → Mem → Prop) : Prop :=
 match m with
 | 0 => K (.sl sz es .no) H
 | 1 => K (.sl sz es (.tk H.length)) (H ++ [.tok])
 | _ => K (.hs H.length 0 es.length es.length sz) (H ++ [.cells (es.flatten.map PV.av)])
def sliceStr (P : Program) (u : TypeId) : Bool := match P.underlying u with | some .string | some (.slice _) => true | _ => false
def aAppend (P : Program) (m : Nat) (t u : TypeId) (b x : AV) (H : Mem) (K : AV → Mem → Prop) : Prop :=
 sliceStr P u = true ∧
 match P.underlying t with
 | some (.slice e) =>
  (match tinf P e with
  | some (sz, by_, some z) => (zeroCs z).length = sz ∧
   (match srcP sz x H with
   | some ses =>
    (match b with
    | .sc (.slice none 0 0) => ses.length * by_ ≤ 140737488355328 ∧ ses.length ≤ 9223372036854775807 ∧ aFresh m sz ses H K
    | .sl z' es .ex => z' = sz ∧ (es.length + ses.length) * by_ ≤ 140737488355328 ∧ es.length + ses.length ≤ 9223372036854775807 ∧ (2 ≤ m → ses ≠ [] ∨ es = []) ∧ aFresh m sz (es ++ ses) H K
    | .sl z' es (.tk t) => z' = sz ∧ H[t]? = some .tok ∧ (es.length + ses.length) * by_ ≤ 140737488355328 ∧ es.length + ses.length ≤ 9223372036854775807 ∧
     K (.sl sz (es ++ ses) (.tk H.length)) (H.set t .dead ++ [.tok])
    | .sl z' es .no => z' = sz ∧ ses = [] ∧ K (.sl sz es .no) H
    | _ => False)
   | none => False)
  | _ => False)
 | _ => False
theorem fresh_sound {g : Gh} {H : Mem} {w w1 : World} {K : AV → Mem → Prop} {m sz cap : Nat} {es : List (List PV)} {c : Array Value} {e : TypeId} (hm : MR g H w) (hp : Push w w1 c e (0, 0)) (hz : ∀ x, x ∈ es → x.length = sz)
  (hv : ∀ (k : Nat) p, es.flatten[k]? = some p → ∃ v, c[k]? = some v ∧ PR g.ro p v) (hlen : es.length ≤ cap) (hcap : c.size = cap * sz) (h : aFresh m sz es H K) :
  Ls P (SR H.length g w K) (.ok (.value (.slice (some ⟨w.heap.size, 0, none⟩) es.length cap)) w1) := by
 unfold aFresh at h
 split at h
 ·exact new_row hm hp hz hv hlen (.inl rfl) h
 ·exact new_tok hm hp (fun o _ => by simp) hz hv hlen hcap h
 ·refine new_hs hm hp (fun o _ => by simp) ?_ (fun i a ha => ?_) hlen (Nat.le_of_eq hcap.symm) h
  ·rw [List.length_map, flatten_length hz, hcap]; exact Nat.mul_le_mul_right _ hlen
  ·rw [List.getElem?_map] at ha
   cases hx : es.flatten[i]? with
   | none => rw [hx] at ha; cases ha
   | some p =>
    rw [hx] at ha
    simp only [Option.map_some, Option.some.injEq] at ha
    subst ha
    obtain ⟨v, h1, h2⟩ := hv i p hx
    exact ⟨v, h1, VR.of_PR h2⟩
theorem MR.tok_in {g : Gh} {H : Mem} {w w1 : World} {t : Nat} {c c' : Array Value} {e : TypeId} {frz : Nat × Nat} {k : Nat} (hm : MR g H w) (ht : H[t]? = some .tok) (hre : ¬ (g.mu t).l < (g.mu t).o) (hb : w.heap[(g.mu t).b]? = some (.cells c e frz))
  (hu : Upd w w1 (g.mu t).b (.cells c' e frz)) (hs : c'.size = c.size) (hlt : ∀ i, i < (g.mu t).o → c'[i]? = c[i]?) :
  MR (({ g with ro := fun b o => if b = (g.mu t).b ∧ (g.mu t).o ≤ o ∧ o < (g.mu t).o + k then c'[o]? else g.ro b o } : Gh).addE H.length ⟨(g.mu t).b, (g.mu t).o + k, (g.mu t).l⟩) (H.set t .dead ++ [.tok]) w1 ∧
  Ev H.length g w (({ g with ro := fun b o => if b = (g.mu t).b ∧ (g.mu t).o ≤ o ∧ o < (g.mu t).o + k then c'[o]? else g.ro b o } : Gh).addE H.length ⟨(g.mu t).b, (g.mu t).o + k, (g.mu t).l⟩) w1 := by
 obtain ⟨h1, h2, h3⟩ := (hm.ent t _ ht).resolve_left hre
 have hbl := (hm.ow _ _ h1).1
 have hgle : Gle H.length g (({ g with ro := fun b o => if b = (g.mu t).b ∧ (g.mu t).o ≤ o ∧ o < (g.mu t).o + k then c'[o]? else g.ro b o } : Gh).addE H.length ⟨(g.mu t).b, (g.mu t).o + k, (g.mu t).l⟩) := by
  refine ⟨fun b o v h => ?_, fun id hid => by simp only [Gh.addE]; rw [if_neg (by omega)]⟩
  simp only [Gh.addE]
  by_cases hx : b = (g.mu t).b ∧ (g.mu t).o ≤ o ∧ o < (g.mu t).o + k
  ·obtain ⟨rfl, hx1, _⟩ := hx
   have := h3 o v h
   omega
  ·rw [if_neg hx]; exact h
 refine ⟨⟨fun b o v hro => ?_, fun id x hx => ?_, fun b id ho => ?_⟩, ⟨hgle, fun b hb' ho => ?_, by rw [hu.size]; omega, hu.os, hu.tape, hu.output⟩⟩
 ·simp only [Gh.addE] at hro
  by_cases hx : b = (g.mu t).b ∧ (g.mu t).o ≤ o ∧ o < (g.mu t).o + k
  ·rw [if_pos hx] at hro
   unfold World.cell?
   rw [hx.1, hu.same hbl]; exact hro
  ·rw [if_neg hx] at hro
   have hw := hm.ro b o v hro
   by_cases hbb : b = (g.mu t).b
   ·subst hbb
    have ho := h3 o v hro
    unfold World.cell? at hw ⊢
    simp only [hb] at hw
    simp only [hu.same hbl]
    rw [if_neg (by simp)] at hw ⊢
    rw [hlt o ho]; exact hw
   ·rw [hu.cell_other hbb]; exact hw
 ·rcases get_snoc hx with hx | ⟨rfl, rfl⟩
  ·rcases get_set hx with ⟨hne, hx⟩ | ⟨rfl, rfl, _⟩
   ·have hid := lt_of_get hx
    have he := hm.ent id x hx
    rcases he.own hid with hfr' | hown
    ·exact hfr' _ _ _ hgle
    ·refine he.keep hid hgle (by simp) fun b hown => ?_
     have hbb : b ≠ (g.mu t).b := fun hbb => by rw [hbb, h1] at hown; cases hown; exact hne rfl
     refine ⟨?_, fun o => ?_, hu.other hbb⟩
     ·simp only [Gh.addE]; rw [if_neg hbb]; exact hown
     ·simp only [Gh.addE]; rw [if_neg (fun hx => hbb hx.1)]
   ·trivial
  ·have hl : (H.set t Ent.dead).length = H.length := by simp
   simp only [EntR, Gh.addE, hl, if_true]
   refine .inr ⟨trivial, ?_, fun o v hv => ?_⟩
   ·obtain ⟨c2, e2, fr2, g1, g2, g3⟩ := h2
    rw [hb] at g1; cases g1
    exact ⟨c', e, frz, hu.same hbl, by omega, g3⟩
   ·by_cases hx : (g.mu t).o ≤ o ∧ o < (g.mu t).o + k
    ·exact hx.2
    ·rw [if_neg (fun hy => hx ⟨hy.2.1, hy.2.2⟩)] at hv
     have := h3 o v hv; omega
 ·simp only [Gh.addE] at ho
  rw [hu.size]
  by_cases hbb : b = (g.mu t).b
  ·rw [if_pos hbb] at ho; cases ho; rw [hbb]; exact ⟨hbl, by simp⟩
  ·rw [if_neg hbb] at ho
   have := hm.ow b id ho
   exact ⟨this.1, by simp; omega⟩
 ·have hbb : b ≠ (g.mu t).b := fun hbb => by rw [hbb, h1] at ho; cases ho
  refine ⟨?_, hu.other hbb⟩
  simp only [Gh.addE]; rw [if_neg hbb]; exact ho
end
end Go.Proofs.YtaaamoicidfgcaaGreat.Am
namespace Go.Proofs.YtaaamoicidfgcaaGreat.Am
open Go
theorem PR.one {ro : Nat → Nat → Option Value} {p : PV} {v : Value} (h : PR ro p v) : v.oneCell' = true := by
 cases h with
 | sc v h => exact h
 | nil => rfl
 | sl => rfl
section
variable {P : Program} {fr : Frm} {H : Mem} {K : AV → Mem → Prop} {dst : Option Nat} {ty : TypeId} {pos : String} {after : Array Edge} {guard : Option (Nat × Bool)}
theorem sliceStr_spec {u : TypeId} (h : sliceStr P u = true) : ∃ du, P.underlying u = some du ∧ (du = .string ∨ ∃ e', du = .slice e') := by
 unfold sliceStr at h
 split at h
 ·rename_i h1; exact ⟨_, h1, .inl rfl⟩
 ·rename_i e h1; exact ⟨_, h1, .inr ⟨e, rfl⟩⟩
 ·cases h
theorem lists_get {ro : Nat → Nat → Option Value} {es ses : List (List PV)} {olds news : List Value} (hl : olds.length = es.flatten.length) (h1 : ∀ (k : Nat) p, es.flatten[k]? = some p → ∃ v, olds[k]? = some v ∧ PR ro p v)
  (h2 : ∀ (k : Nat) p, ses.flatten[k]? = some p → ∃ v, news[k]? = some v ∧ PR ro p v) : ∀ (k : Nat) p, (es ++ ses).flatten[k]? = some p → ∃ v, (olds ++ news)[k]? = some v ∧ PR ro p v := by
 intro k p hk
 rw [List.flatten_append] at hk
 rcases Nat.lt_or_ge k es.flatten.length with h | h
 ·rw [List.getElem?_append_left h] at hk
  rw [List.getElem?_append_left (by omega)]
  exact h1 k p hk
 ·rw [List.getElem?_append_right h] at hk
  rw [List.getElem?_append_right (by omega), hl]
  exact h2 _ p hk
theorem nil_fresh {g : Gh} {w : World} {m sz : Nat} (hm : MR g H w) (h : aFresh m sz [] H K) : Ls P (SR H.length g w K) (.ok (.value (.slice none 0 0)) w) := by
 match m, h with
 | 0, h => exact sr_here hm (.nil sz .no fun t e => by cases e) h
 | 1, h =>
  obtain ⟨m1, m2⟩ := hm.push_void
  exact ⟨_, _, _, h, .nil sz _ (fun t e => by cases e; simp), m1, m2, by simp⟩
 | m + 2, h =>
  obtain ⟨m1, m2⟩ := hm.push_none
  exact ⟨_, _, _, h, .hn _ 0 sz none (by simp), m1, m2, by simp⟩
theorem opS_append {t u : TypeId} {x y : Operand} (m : Nat) (h : aAppend P m t u (aev fr x) (aev fr y) H K) : OpS P ⟨dst, .call ⟨.builtin .append, #[x, y], #[t, u]⟩, ty, pos, after, guard⟩ fr H K := fun g w ev hop hm => by
 have hx := hop x (by simp [Op.operands, Call.operands])
 have hy := hop y (by simp [Op.operands, Call.operands])
 obtain ⟨hu0, h⟩ := h
 obtain ⟨du, hu, hdu⟩ := sliceStr_spec hu0
 have go : ∀ v w1, (Builtin.append_ #[t, u] ty #[ev x, ev y]).run P w = .ok v w1 → (execOp ev ⟨dst, .call ⟨.builtin .append, #[x, y], #[t, u]⟩, ty, pos, after, guard⟩).run P w = .ok (.value v) w1 := fun v w1 hr => by
  rw [execOp_b, b_append]
  simp only [List.map_toArray, List.map_cons, List.map_nil, Sem.run_bind, hr, Result.andThen_ok, Sem.run_pure]
 generalize aev fr x = ax at *
 generalize aev fr y = ay at *
 generalize ev x = vx at *
 generalize ev y = vy at *
 split at h
 ·rename_i e ht
  split at h
  ·rename_i sz by_ zv hti
   obtain ⟨hzc, h⟩ := h
   split at h
   ·rename_i ses hsrc
    obtain ⟨s1, s2, news, s3, s4, s5⟩ := run_src hsrc hm hy
    have hnews_w := s4 w rfl
    have hnews_d := s4 w.drew rfl
    have none_comes : ∀ (base : Option Addr) (len cap : Nat), len ≤ cap → ses = [] → (Builtin.append_ #[t, u] ty #[.slice base len cap, vy]).run P w = .ok (.slice base len cap) w := fun base len cap hl he => by
     subst he
     have hn0 : news = [] := by cases news with | nil => rfl | cons a l => simp at s3
     subst hn0
     have := run_room (P := P) (ty := ty) (sLen := len) (sCap := cap) (base := base) (w1 := w) ht hu hdu hti s2 (by simpa using hl) hnews_w (fun a _ => rfl) (fun _ => rfl)
     simpa using this
    have grows : ∀ (base : Option Addr) (es : List (List PV)) (cap : Nat) (olds : List Value), cap < es.length + ses.length → (es.length + ses.length) * by_ ≤ 140737488355328 → es.length + ses.length ≤ 9223372036854775807 →
      (Builtin.firstCells sz es.length (.slice base es.length cap)).run P w.drew = .ok olds.toArray w.drew → olds.length = es.length * sz → (∀ e, e ∈ es → e.length = sz) →
      (∀ (k : Nat) p, es.flatten[k]? = some p → ∃ v, olds[k]? = some v ∧ PR g.ro p v) → ∀ m', aFresh m' sz (es ++ ses) H K →
      ∃ v w1, (Builtin.append_ #[t, u] ty #[.slice base es.length cap, vy]).run P w = .ok v w1 ∧ Ls P (SR H.length g w K) (.ok (.value v) w1) := fun base es cap olds c1 c2 c3 c4 c5 c6 c7 m' c8 => by
     obtain ⟨c, w1, cap', q1, q2, q3, q4, q5⟩ := run_grow (P := P) (ty := ty) (x := vy) ht hu hdu hti hzc s2 c1 c2 c3 c4 hnews_d c5 s3
     refine ⟨_, w1, q1, ?_⟩
     have hz' : ∀ x, x ∈ es ++ ses → x.length = sz := fun x hx => by
      rcases List.mem_append.1 hx with hx | hx
      ·exact c6 x hx
      ·exact s1 x hx
     have := fresh_sound (P := P) (K := K) (m := m') (cap := cap') hm q2 hz' (fun k p hk => by
      obtain ⟨v, r1, r2⟩ := lists_get (by rw [flatten_length c6]; exact c5) c7 s5 k p hk
      exact ⟨v, by rw [q5 k (lt_of_get r1)]; exact r1, r2⟩) (by simpa using q3) q4 c8
     simpa using this
    cases hx with
    | sc =>
     split at h
     ·rename_i eq
      cases eq
      obtain ⟨hb, h63, h⟩ := h
      by_cases he : ses = []
      ·have hr := none_comes none 0 0 (Nat.le_refl _) he
       rw [go _ _ hr]
       subst he
       exact nil_fresh hm h
      ·have hpos : 0 < ses.length := List.length_pos_iff.2 he
       obtain ⟨v, w1, q1, q2⟩ := grows none [] 0 [] (by simpa using hpos) (by simpa using hb) (by simpa using h63) (run_firstCells_none _ _ _ _ _) (by simp) (fun e h => by cases h) (fun k p hk => by simp at hk) m h
       rw [go _ _ q1]; exact q2
     all_goals first | (rename_i eq; cases eq) | exact h.elim
    | nil z' =>
     rename_i k hk
     cases k with
     | no =>
      obtain ⟨rfl, he, h⟩ := h
      rw [go _ _ (none_comes none 0 0 (Nat.le_refl _) he)]
      exact sr_here hm (.nil z' .no hk) h
     | ex =>
      obtain ⟨rfl, hb, h63, h2m, h⟩ := h
      by_cases he : ses = []
      ·rw [go _ _ (none_comes none 0 0 (Nat.le_refl _) he)]
       subst he
       exact nil_fresh hm h
      ·have hpos : 0 < ses.length := List.length_pos_iff.2 he
       obtain ⟨v, w1, q1, q2⟩ := grows none [] 0 [] (by simpa using hpos) (by simpa using hb) (by simpa using h63) (run_firstCells_none _ _ _ _ _) (by simp) (fun e h => by cases h) (fun k p hk => by simp at hk) m h
       rw [go _ _ q1]; exact q2
     | tk tt =>
      obtain ⟨rfl, htok, hb, h63, h⟩ := h
      have hl2 : (H.set tt Ent.dead).length = H.length := by simp
      by_cases he : ses = []
      ·rw [go _ _ (none_comes none 0 0 (Nat.le_refl _) he)]
       subst he
       obtain ⟨m1, m2⟩ := hm.move_tok htok
       exact ⟨_, _, _, h, .nil z' _ (fun t e => by cases e; simp), m1, m2, by simp⟩
      ·have hpos : 0 < ses.length := List.length_pos_iff.2 he
       have hkill := hm.kill tt
       obtain ⟨c, w1, cap', q1, q2, q3, q4, q5⟩ := run_grow (P := P) (ty := ty) (x := vy) (base := none) (sLen := 0) (sCap := 0) (olds := []) ht hu hdu hti hzc s2 (by simpa using hpos) (by simpa using hb) (by simpa using h63) (run_firstCells_none _ _ _ _ _) hnews_d (by simp) s3
       rw [go _ _ q1]
       have := new_tok (P := P) (K := K) (H := H.set tt .dead) (cap := cap') (es := ses) hkill q2 (fun o _ => by simp) s1 (fun k p hk => by
        obtain ⟨v, r1, r2⟩ := s5 k p hk
        exact ⟨v, by rw [q5 k (by simpa using lt_of_get r1)]; simpa using r1, r2⟩) (by simpa using q3) q4 (by rw [hl2]; exact h)
       rw [hl2] at this
       simpa using this
    | sl z' es k a cap f hsp hcap hz hrow hk =>
     have hfl := flatten_length hz
     have holds : ∀ w' : World, w'.heap = w.heap → z' = sz → (Builtin.firstCells sz es.length (.slice (some a) es.length cap)).run P w' = .ok ((List.range (es.length * sz)).map f).toArray w' := fun w' hw hzz => by
      subst hzz
      refine run_firstCells_some w' z' es.length a es.length cap _ (by simp) fun j v hj => ?_
      have hlt := lt_of_get hj
      simp at hlt
      rw [List.getElem?_map, List.getElem?_range hlt] at hj
      simp only [Option.map_some, Option.some.injEq] at hj
      subst hj
      rw [add_plain (hsp.resolve_left (fun h0 => by subst h0; simp_all)), cell_of (w := w) (by rw [hw])]
      exact hm.ro _ _ _ (hrow j (es.flatten[j]'(by omega)) (List.getElem?_eq_getElem (by omega))).1
     have hold_p : z' = sz → ∀ (k : Nat) p, es.flatten[k]? = some p → ∃ v, ((List.range (es.length * sz)).map f)[k]? = some v ∧ PR g.ro p v := fun hzz k p hk => by
      subst hzz
      have hlt := lt_of_get hk
      exact ⟨f k, by rw [List.getElem?_map, List.getElem?_range (by omega)]; rfl, (hrow k p hk).2⟩
     cases k with
     | no =>
      obtain ⟨rfl, he, h⟩ := h
      rw [go _ _ (none_comes (some a) es.length cap hcap he)]
      exact sr_here hm (.sl z' es .no a cap f hsp hcap hz hrow trivial) h
     | ex =>
      obtain ⟨rfl, hb, h63, h2m, h⟩ := h
      by_cases he : ses = []
      ·rw [go _ _ (none_comes (some a) es.length cap hcap he)]
       subst he
       rw [List.append_nil] at h
       match m, h2m, h with
       | 0, _, h => exact sr_here hm (.sl z' es .no a cap f hsp hcap hz hrow trivial) h
       | 1, _, h =>
        obtain ⟨m1, m2⟩ := hm.push_void
        refine ⟨_, _, _, h, ?_, m1, m2, by simp⟩
        exact .sl z' es _ a cap f hsp hcap hz (hrow.mono m2.gle.ro) ⟨by simp, .inl hk⟩
       | m + 2, h2m, h =>
        have hes := (h2m (by omega)).resolve_left fun hh => hh rfl
        subst hes
        simp only [Tk.ok, List.length_nil] at hk
        subst hk
        obtain ⟨m1, m2⟩ := hm.push_none
        exact ⟨_, _, _, h, .hn _ 0 z' (some a) (by simp), m1, m2, by simp⟩
      ·have hpos : 0 < ses.length := List.length_pos_iff.2 he
       simp only [Tk.ok] at hk
       obtain ⟨v, w1, q1, q2⟩ := grows (some a) es cap _ (by omega) hb h63 (holds w.drew rfl rfl) (by simp) hz (hold_p rfl) m h
       rw [go _ _ q1]; exact q2
     | tk tt =>
      obtain ⟨rfl, htok, hb, h63, h1⟩ := h
      by_cases he : ses = []
      ·rw [go _ _ (none_comes (some a) es.length cap hcap he)]
       subst he
       rw [List.append_nil] at h1
       obtain ⟨m1, m2⟩ := hm.move_tok htok
       refine ⟨_, _, _, h1, ?_, m1, m2, by simp⟩
       exact .sl z' es _ a cap f hsp hcap hz (hrow.mono m2.gle.ro) ⟨by simp, hk.2.imp id fun e => by simpa using e⟩
      ·have hpos : 0 < ses.length := List.length_pos_iff.2 he
       obtain ⟨hid, hmu⟩ := hk
       have hz' : ∀ x, x ∈ es ++ ses → x.length = z' := fun x hx => by
        rcases List.mem_append.1 hx with hx | hx
        ·exact hz x hx
        ·exact s1 x hx
       by_cases hroom : es.length + ses.length ≤ cap
       ·
        have hmu := hmu.resolve_left (by omega)
        have hre : ¬ (g.mu tt).l < (g.mu tt).o := by
         rw [hmu]
         have := Nat.mul_le_mul_right z' hcap
         simp only; omega
        obtain ⟨g1, g2, g3⟩ := (hm.ent tt _ htok).resolve_left hre
        obtain ⟨c, el, frz, hblk, hl, hfr⟩ := g2
        rw [hmu] at g1 hblk hl hfr g3
        simp only at g1 hblk hl hfr g3
        have hcapz : a.off + es.length * z' + ses.length * z' ≤ a.off + cap * z' := by
         have := Nat.mul_le_mul_right z' hroom
         rw [Nat.add_mul] at this; omega
        obtain ⟨w1, hr, hupd⟩ := run_storeCells (P := P) el frz ⟨a.block, a.off + es.length * z', none⟩ rfl news 0 w c hblk (fun v hv => by
         obtain ⟨i, hi⟩ := List.getElem?_of_mem hv
         have hlt := lt_of_get hi
         have hsf : ses.flatten.length = ses.length * z' := flatten_length s1
         obtain ⟨u, r1, r2⟩ := s5 i _ (List.getElem?_eq_getElem (by omega))
         rw [hi] at r1; cases r1
         exact r2.one) (by simp only [s3]; omega) (fun o o1 o2 => hfr o (by simp only [s3] at o2; omega))
        simp only [Nat.add_zero] at hupd
        have hrun := run_room (P := P) (ty := ty) (sLen := es.length) (sCap := cap) (base := some a) (w1 := w1) ht hu hdu hti s2 hroom hnews_w (fun a' ha' => by cases ha'; rw [add_plain (hsp.resolve_left (fun h0 => by subst h0; simp_all))]; exact hr) (fun e => by cases e)
        rw [go _ _ hrun]
        have hupd' : Upd w w1 (g.mu tt).b (.cells (updA c (a.off + es.length * z') news) el frz) := by rw [hmu]; exact hupd
        obtain ⟨m1, m2⟩ := MR.tok_in (k := ses.length * z') hm htok hre (by rw [hmu]; exact hblk) hupd' (updA_size _ _ _) (fun i hi => by rw [hmu] at hi; exact updA_lt _ _ _ hi)
        refine ⟨_, _, _, h1, ?_, m1, m2, by simp⟩
        have hlen : (es ++ ses).length = es.length + ses.length := by simp
        rw [← hlen]
        refine .sl z' (es ++ ses) _ a cap (fun k => if k < es.flatten.length then f k else news.getD (k - es.flatten.length) undef) hsp (by rw [hlen]; exact hroom) hz' ?_ ?_
        ·intro k p hkp
         rw [List.flatten_append] at hkp
         rcases Nat.lt_or_ge k es.flatten.length with hk1 | hk1
         ·rw [List.getElem?_append_left hk1] at hkp
          simp only [if_pos hk1]
          exact ⟨m2.gle.ro _ _ _ (hrow k p hkp).1, (hrow k p hkp).2.mono m2.gle.ro⟩
         ·rw [List.getElem?_append_right hk1] at hkp
          simp only [if_neg (Nat.not_lt.2 hk1)]
          obtain ⟨v, r1, r2⟩ := s5 _ p hkp
          have e1 : news.getD (k - es.flatten.length) undef = v := by rw [List.getD_eq_getElem?_getD, r1]; rfl
          rw [e1]
          refine ⟨?_, r2.mono m2.gle.ro⟩
          have hlt := lt_of_get r1
          have hcond : a.block = (g.mu tt).b ∧ (g.mu tt).o ≤ a.off + k ∧ a.off + k < (g.mu tt).o + ses.length * z' := by
           rw [hmu]
           refine ⟨rfl, ?_, ?_⟩
           ·show a.off + es.length * z' ≤ a.off + k; omega
           ·show a.off + k < a.off + es.length * z' + ses.length * z'; omega
          simp only [Gh.addE]
          rw [if_pos hcond]
          rw [show a.off + k = a.off + es.length * z' + (k - es.flatten.length) from by omega]
          exact updA_in _ _ _ r1 (by omega)
        ·refine ⟨by simp, .inr ?_⟩
         simp only [Gh.addE, if_true, hmu, Pl.mk.injEq, true_and, and_true]
         rw [hlen, Nat.add_mul]; omega
       ·
        have hkill := hm.kill tt
        obtain ⟨c, w1, cap', q1, q2, q3, q4, q5⟩ := run_grow (P := P) (ty := ty) (x := vy) ht hu hdu hti hzc s2 (by omega) hb h63 (holds w.drew rfl rfl) hnews_d (by simp) s3
        rw [go _ _ q1]
        have hl2 : (H.set tt Ent.dead).length = H.length := by simp
        have := new_tok (P := P) (K := K) (H := H.set tt .dead) (cap := cap') (es := es ++ ses) hkill q2 (fun o _ => by simp) hz' (fun k p hk => by
         obtain ⟨v, r1, r2⟩ := lists_get (by rw [hfl]; simp) (hold_p rfl) s5 k p hk
         exact ⟨v, by rw [q5 k (lt_of_get r1)]; exact r1, r2⟩) (by simpa using q3) q4 (by rw [hl2]; exact h1)
        rw [hl2] at this
        simpa using this
    | _ => exact h.elim
   ·exact h.elim
  ·exact h.elim
 ·exact h.elim
end
end Go.Proofs.YtaaamoicidfgcaaGreat.Am
namespace Go.Proofs.YtaaamoicidfgcaaGreat.Am
open Go
section
variable {P : Program} {fr : Frm} {H : Mem} {K : AV → Mem → Prop} {dst : Option Nat} {ty : TypeId} {pos : String} {after : Array Edge} {guard : Option (Nat × Bool)}
theorem push_bytes (w : World) (e : TypeId) (s : ByteArray) : Push w (Lib.bytesWorld w e s) (Lib.bytesCells w e s) e ((Lib.bytesCells w e s).size, (Lib.bytesCells w e s).size + 1) := by
 refine ⟨?_, rfl, rfl, rfl⟩
 apply Array.ext'
 apply List.ext_getElem?
 intro j
 simp only [Array.getElem?_toList]
 rw [Array.getElem?_push]
 rcases Nat.lt_trichotomy j w.heap.size with h | h | h
 ·rw [if_neg (by omega)]; exact Lib.bytesWorld_at_old w e s j h
 ·subst h; rw [if_pos rfl]; exact Lib.bytesWorld_at_new w e s
 ·rw [if_neg (by omega), Array.getElem?_eq_none (by rw [Lib.bytesWorld_size]; omega), Array.getElem?_eq_none (by omega)]
def Gh.fz (g : Gh) (w : World) (id n : Nat) : Gh := { g with ro := fun b o => if b = (g.mu id).b ∧ (g.mu id).o ≤ o ∧ o < (g.mu id).o + n then w.cell? ⟨b, o, none⟩ else g.ro b o }
theorem MR.freeze {g : Gh} {H : Mem} {w : World} {id : Nat} {cs : List AV} (hm : MR g H w) (hid : H[id]? = some (.cells cs)) :
  MR (g.fz w id cs.length) (H.set id .dead) w ∧ Gle H.length g (g.fz w id cs.length) := by
 by_cases hne : cs = []
 ·subst hne
  have e : g.fz w id 0 = g := by
   obtain ⟨ro, ow, mu⟩ := g
   simp only [Gh.fz, Gh.mk.injEq, and_self, and_true]
   funext b o
   rw [if_neg (by omega)]
  simp only [List.length_nil, e]
  exact ⟨hm.kill id, .refl _ _⟩
 obtain ⟨h1, h2, h3, h4, h5⟩ := hm.owned hid (.inl hne)
 have hgle : Gle H.length g (g.fz w id cs.length) := ⟨fun b o v h => by
  simp only [Gh.fz]
  by_cases hx : b = (g.mu id).b ∧ (g.mu id).o ≤ o ∧ o < (g.mu id).o + cs.length
  ·obtain ⟨rfl, _⟩ := hx; rw [h4] at h; cases h
  ·rw [if_neg hx]; exact h, fun _ _ => rfl⟩
 refine ⟨⟨fun b o v h => ?_, fun id' e he => ?_, fun b id' ho => ?_⟩, hgle⟩
 ·simp only [Gh.fz] at h
  by_cases hx : b = (g.mu id).b ∧ (g.mu id).o ≤ o ∧ o < (g.mu id).o + cs.length
  ·rw [if_pos hx] at h; exact h
  ·rw [if_neg hx] at h; exact hm.ro b o v h
 ·rcases get_set he with ⟨hne, he⟩ | ⟨rfl, rfl, _⟩
  ·have hid' := lt_of_get he
   have hE := hm.ent id' e he
   rcases hE.own hid' with hfr' | hown
   ·exact (hfr' _ _ _ hgle)
   ·refine hE.keep hid' hgle (by simp) fun b hown => ⟨hown, fun o => ?_, rfl⟩
    simp only [Gh.fz]
    rw [if_neg]
    rintro ⟨hb, _⟩
    rw [hb, h1] at hown; cases hown; exact hne rfl
  ·trivial
 ·have := hm.ow b id' ho
  exact ⟨this.1, by simpa using this.2⟩
theorem freeze_row {g : Gh} {H : Mem} {w : World} {id : Nat} {cs : List AV} {pcs : List PV} {off len s cap : Nat} (hm : MR g H w) (hid : H[id]? = some (.cells cs)) (hp : cs.mapM AV.pv = some pcs)
  (hl : off + len * s ≤ cs.length) (hlc : len ≤ cap) {n : Nat} : VR (g.fz w id cs.length) n (.sl s (chunk s len ((pcs.drop off).take (len * s))) .no) (.slice (some ⟨(g.mu id).b, (g.mu id).o + off, none⟩) len cap) := by
 have h5 := hm.cellAt hid
 obtain ⟨hm1, hgle⟩ := hm.freeze hid
 have hcell : ∀ j, j < cs.length → ∃ v, w.cell? ⟨(g.mu id).b, (g.mu id).o + j, none⟩ = some v ∧ VR g H.length (cs.getD j .any) v := fun j hj => by
  obtain ⟨v, a1, a2⟩ := h5 j cs[j] (List.getElem?_eq_getElem hj)
  exact ⟨v, a1, by simpa [List.getD, List.getElem?_eq_getElem hj] using a2⟩
 let f : Nat → Value := fun j => (w.cell? ⟨(g.mu id).b, (g.mu id).o + j, none⟩).getD undef
 have hf : ∀ j, j < cs.length → w.cell? ⟨(g.mu id).b, (g.mu id).o + j, none⟩ = some (f j) ∧ VR g H.length (cs.getD j .any) (f j) := fun j hj => by
  obtain ⟨v, a1, a2⟩ := hcell j hj
  simp only [f, a1, Option.getD_some]; exact ⟨trivial, a2⟩
 have hvs : VRs g H.length cs ((List.range cs.length).map f).toArray := ⟨by simp, fun i a ha => by
  have hlt := lt_of_get ha
  have := (hf i hlt).2
  rw [List.getD_eq_getElem?_getD, ha] at this
  simpa [Array.getD_eq_getD_getElem?, hlt] using this⟩
 obtain ⟨hpl, hpr⟩ := mapM_pv hp hvs
 have hlen : ((pcs.drop off).take (len * s)).length = len * s := by simp; omega
 have hcl := chunk_length s len ((pcs.drop off).take (len * s))
 have := VR.sl (g := g.fz w id cs.length) (n := n) s (chunk s len ((pcs.drop off).take (len * s))) .no ⟨(g.mu id).b, (g.mu id).o + off, none⟩ cap (fun k => f (off + k)) (.inr rfl) (by omega) (chunk_mem s len _ hlen) (by
  rw [chunk_flatten s len _ hlen]
  intro k p hk
  have hlt := lt_of_get hk
  rw [hlen] at hlt
  rw [List.getElem?_take_of_lt hlt, List.getElem?_drop] at hk
  obtain ⟨v, r1, r2⟩ := hpr _ p hk
  have hj : off + k < cs.length := by omega
  have hv : v = f (off + k) := by simp [hj] at r1; exact r1.symm
  subst hv
  refine ⟨?_, r2.mono hgle.ro⟩
  simp only [Gh.fz]
  have hcond : (g.mu id).b = (g.mu id).b ∧ (g.mu id).o ≤ (g.mu id).o + off + k ∧ (g.mu id).o + off + k < (g.mu id).o + cs.length := ⟨rfl, by omega, by omega⟩
  rw [if_pos ⟨trivial, hcond.2⟩, Nat.add_assoc]
  exact (hf _ hj).1) trivial
 rw [hcl] at this
 exact this
theorem MR.mark {g : Gh} {H : Mem} {w w1 : World} {id b : Nat} {c : Array Value} {e : TypeId} {fr fr' : Nat × Nat} (hm : MR g H w) (hid : H[id]? = some .dead) (hob : g.ow b = some id)
  (hb : w.heap[b]? = some (.cells c e fr)) (hu : Upd w w1 b (.cells c e fr')) : MR g H w1 ∧ Ev H.length g w g w1 := by
 have hlt := (hm.ow _ _ hob).1
 have hcell : ∀ a : Addr, w1.cell? a = w.cell? a := fun a => by
  by_cases hx : a.block = b
  ·unfold World.cell?; rw [hx, hu.same hlt, hb]
  ·exact hu.cell_other hx
 refine ⟨⟨fun b o v h => (hcell _).trans (hm.ro b o v h), fun id' x hx => ?_, fun b id' ho => by rw [hu.size]; exact hm.ow b id' ho⟩, ⟨.refl _ _, fun b' hb' ho => ⟨ho, hu.other fun hbb => ?_⟩, by rw [hu.size]; omega, hu.os, hu.tape, hu.output⟩⟩
 ·have hid' := lt_of_get hx
  have hE := hm.ent id' x hx
  rcases hE.own hid' with hfr' | hown
  ·exact hfr' _ _ _ (.refl _ _)
  ·by_cases hbi : id' = id
   ·subst hbi
    rw [hid] at hx; cases hx; trivial
   ·exact hE.keep hid' (.refl _ _) (Nat.le_refl _) fun b' hown => ⟨hown, fun _ => rfl, hu.other fun hbb => by rw [hbb, hob] at hown; cases hown; exact hbi rfl⟩
 ·rw [hbb, hob] at ho; cases ho
theorem upd_freeze {w : World} {a : Addr} {n : Nat} {c : Array Value} {e : TypeId} {fr : Nat × Nat} (hb : w.heap[a.block]? = some (.cells c e fr)) (hn : n ≠ 0) :
  ∃ fr', Upd w (w.freeze a n) a.block (.cells c e fr') := by
 refine ⟨if fr.1 == fr.2 then (a.off, a.off + n) else (min fr.1 a.off, max fr.2 (a.off + n)), ?_, ?_, ?_, ?_⟩
 ·unfold World.freeze
  rw [if_neg hn]
  apply Array.ext_getElem?
  intro i
  simp only [Array.getElem?_modify]
  by_cases h : a.block = i
  ·subst h
   have hlt := alt_of_get hb
   rw [Array.getElem?_setIfInBounds_self_of_lt hlt]
   simp only [if_true, hb, Option.map_some]
  ·rw [Array.getElem?_setIfInBounds_ne h, if_neg h]
 all_goals (unfold World.freeze; rw [if_neg hn])
def aBytes (P : Program) (m : Nat) (src dst : TypeId) (x : AV) (H : Mem) (K : AV → Mem → Prop) : Prop :=
 match P.underlying src, P.underlying dst with
 | some .string, some (.slice e) =>
  (match P.underlying e with
  | some (.int .u8) =>
   (match x with
   | .sc (.string s) => aFresh m 1 (s.data.toList.map encB) H K
   | _ => False)
  | _ => False)
 | some (.slice _), some (.slice e) => src = dst ∧
  (match P.underlying e with
  | some (.int .u8) =>
   (match x with
   | .hs id off len _ s => s = 1 ∧ len ≠ 0 ∧ (match H[id]? with
    | some (.cells cs) => off + len * 1 ≤ cs.length ∧ (match cs.mapM AV.pv with
     | some pcs => K (.sl 1 (chunk 1 len ((pcs.drop off).take (len * 1))) .no) (H.set id .dead)
     | none => False)
    | _ => False)
   | _ => False)
  | _ => False)
 | _, _ => False
theorem opS_bytes {s d : TypeId} {x : Operand} (m : Nat) (h : aBytes P m s d (aev fr x) H K) : OpS P ⟨dst, .convert s d x, ty, pos, after, guard⟩ fr H K := fun g w ev hop hm => by
 have hx := hop x (by simp [Op.operands])
 unfold aBytes at h
 split at h
 ·rename_i e hs hd
  split at h
  ·rename_i he
   split at h
   ·rename_i st heq
    rw [heq] at hx
    have hr := Lib.run_convert_string_bytes (P := P) w s d e st hs hd he
    have : (execOp ev ⟨dst, .convert s d x, ty, pos, after, guard⟩).run P w = .ok (.value (.slice (some ⟨w.heap.size, 0, none⟩) st.size (grownCap w st.size 0 e))) (Lib.bytesWorld w e st) := by
     simp only [execOp, Sem.run_bind, VR_sc hx, hr, Result.andThen_ok, Sem.run_pure]
    rw [this]
    have hp := push_bytes w e st
    have hcap : st.size ≤ grownCap w st.size 0 e := by unfold grownCap Question.cut; exact Nat.le_add_right _ _
    have hcs : (Lib.bytesCells w e st).size = grownCap w st.size 0 e := by
     unfold Lib.bytesCells
     simp
     show st.size + _ = _
     omega
    have hlen : (st.data.toList.map encB).length = st.size := by simp
    have hv : ∀ (k : Nat) p, (st.data.toList.map encB).flatten[k]? = some p → ∃ v, (Lib.bytesCells w e st)[k]? = some v ∧ PR g.ro p v := fun k p hk => by
     obtain ⟨b, h1, h2, h3⟩ := byteRow (ro := g.ro) _ k p hk
     refine ⟨_, ?_, h3⟩
     unfold Lib.bytesCells
     rw [Array.getElem?_toList] at h1
     rw [Array.getElem?_append_left (by simp; exact alt_of_get h1), Array.getElem?_map, h1]
     rfl
    have hfr : ∀ o, o < (Lib.bytesCells w e st).size → (decide ((Lib.bytesCells w e st).size ≤ o) && decide (o < (Lib.bytesCells w e st).size + 1)) = false := fun o ho => by simp; omega
    rw [← hlen]
    unfold aFresh at h
    split at h
    ·exact new_row hm hp (encB_length _) hv (by rw [hlen]; exact hcap) (.inl rfl) h
    ·exact new_tok hm hp hfr (encB_length _) hv (by rw [hlen]; exact hcap) (by rw [hcs, hlen, Nat.mul_one]) h
    ·refine new_hs hm hp hfr ?_ (fun i a ha => ?_) (by rw [hlen]; exact hcap) (by rw [hcs, hlen, Nat.mul_one]; exact Nat.le_refl _) h
     ·rw [List.length_map, flatten_length (encB_length _), hlen, hcs]; omega
     ·rw [List.getElem?_map] at ha
      cases hq : (st.data.toList.map encB).flatten[i]? with
      | none => rw [hq] at ha; cases ha
      | some p =>
       rw [hq] at ha
       simp only [Option.map_some, Option.some.injEq] at ha
       subst ha
       obtain ⟨v, h1, h2⟩ := hv i p hq
       exact ⟨v, h1, VR.of_PR h2⟩
   ·exact h.elim
  ·exact h.elim
 ·rename_i e0 e hs hd
  obtain ⟨rfl, h⟩ := h
  cases hs.symm.trans hd
  split at h
  ·rename_i he
   split at h
   ·rename_i id off len mc z1 heq
    rw [heq] at hx
    obtain ⟨rfl, hl0, h⟩ := h
    split at h
    ·rename_i cs hid
     obtain ⟨hl, h⟩ := h
     split at h
     ·rename_i pcs hp
      cases hvx : ev x with
      | slice a n c =>
       rw [hvx] at hx
       cases hx with
       | hs _ _ _ _ _ cap hidl hll hmc hcap =>
        have hE := hm.owned hid (.inl fun e => by rw [e] at hl; simp at hl; omega)
        obtain ⟨cc, el, frz, hblk, _, _⟩ := hE.2.1
        obtain ⟨fr', hu⟩ := upd_freeze (a := ⟨(g.mu id).b, cc.size, none⟩) (n := 1) hblk (by omega)
        obtain ⟨hm1, hg1⟩ := hm.freeze hid
        have hlt := lt_of_get hid
        obtain ⟨hm2, he2⟩ := hm1.mark (id := id) (b := (g.mu id).b) (by simp [hlt]) hE.1 hblk hu
        have hsh : w.shape? (g.mu id).b = some (el, cc.size) := by unfold World.shape?; rw [hblk]
        have : (execOp ev ⟨dst, .convert s s x, ty, pos, after, guard⟩).run P w = .ok (.value (.slice (some ⟨(g.mu id).b, (g.mu id).o + off, none⟩) len c)) (w.freeze ⟨(g.mu id).b, cc.size, none⟩ 1) := by
         simp [execOp, hvx, convert, run_underlying hs, run_underlying he, markStringish, hsh]
        rw [this]
        have hv := freeze_row (n := (H.set id Ent.dead).length) hm hid hp hl (Nat.le_trans hll hmc)
        refine ⟨_, _, _, h, hv, hm2, ⟨⟨hg1.ro, hg1.mu⟩, fun b hb ho => ?_, he2.size, he2.os, he2.tape, he2.output⟩, by simp⟩
        exact he2.un b hb ho
       | hn => exact absurd rfl hl0
      | _ => rw [hvx] at hx; cases hx
     ·exact h.elim
    ·exact h.elim
   ·exact h.elim
  ·exact h.elim
 ·exact h.elim
theorem put_hs {g : Gh} {w : World} (hm : MR g H w) {id : Nat} {cs vs : List AV} {ws : List Value} {k : Nat} (he : H[id]? = some (.cells cs)) (hv : VRs g H.length vs ws.toArray) (hc : vs.all AV.cellish = true) (hk : k + vs.length ≤ cs.length) :
  ∃ w1, (storeCells ⟨(g.mu id).b, (g.mu id).o + k, none⟩ ws).run P w = .ok () w1 ∧ MR g (H.set id (.cells (setAt cs k vs))) w1 ∧ Ev H.length g w g w1 := by
 have hlen : ws.length = vs.length := by have := hv.1; simpa using this
 by_cases hne : cs = []
 ·subst hne
  have : vs = [] := List.length_eq_zero_iff.1 (by simp only [List.length_nil] at hk; omega)
  subst this
  have : ws = [] := List.length_eq_zero_iff.1 (by simpa using hlen)
  subst this
  exact ⟨w, rfl, by simp only [setAt]; rw [mem_same he]; exact hm, .refl _ _ _⟩
 obtain ⟨h1, h2, h3, h4, h5⟩ := hm.owned he (.inl hne)
 obtain ⟨c, el, frz, hb, hl, hfr⟩ := h2
 obtain ⟨w1, hr, hu⟩ := run_storeCells (P := P) el frz ⟨(g.mu id).b, (g.mu id).o + k, none⟩ rfl ws 0 w c hb (fun v hv' => oneCells hv hc v (by simpa using hv')) (by simp only; omega) (fun o a1 a2 => hfr o (by simp only at a2; omega))
 obtain ⟨m1, m2⟩ := hm.put (cs' := setAt cs k vs) he hne hb hu (updA_size _ _ _) (setAt_length _ _ _) (by
  simp only [Nat.add_zero]
  exact setAt_rel (m := (g.mu id).o) (fun i a ha => by
   obtain ⟨v, q1, q2⟩ := h5 i a ha
   refine ⟨v, ?_, q2⟩
   unfold World.cell? at q1; simp only [hb] at q1; rw [if_neg (by simp)] at q1; exact q1) hv hk (by omega))
 exact ⟨w1, hr, m1, m2⟩
end
end Go.Proofs.YtaaamoicidfgcaaGreat.Am
namespace Go.Proofs.YtaaamoicidfgcaaGreat.Am
open Go
section
variable {P : Program} {fr : Frm} {H : Mem} {K : AV → Mem → Prop} {dst : Option Nat} {ty : TypeId} {pos : String} {after : Array Edge} {guard : Option (Nat × Bool)}
def aNil (P : Program) (op : BinOp) (t : TypeId) (es : List (List PV)) (K : Bool → Prop) : Prop :=
 match P.underlying t, op with
 | some (.slice _), .eql => ∀ b : Bool, (b = true → es = []) → K b
 | some (.slice _), .neq => ∀ b : Bool, (b = true → es = []) → K (!b)
 | _, _ => False
theorem opS_isNil {op : BinOp} {t t' : TypeId} {x y : Operand} {z : Nat} {es : List (List PV)} {k : Tk} (hx : aev fr x = .sl z es k) (hy : aev fr y = .sc (.slice none 0 0)) (h : aNil P op t es fun b => K (.sc (.bool b)) H) :
  OpS P ⟨dst, .binOp op t x y t', ty, pos, after, guard⟩ fr H K := fun g w ev hop hm => by
 have h1 := hop x (by simp [Op.operands])
 have h2 := hop y (by simp [Op.operands])
 rw [hx] at h1; rw [hy] at h2
 have e2 := VR_sc h2
 obtain ⟨a, l, c, e1, hn⟩ : ∃ a l c, ev x = .slice a l c ∧ (a.isNone = true → es = []) := by
  generalize ev x = u at h1
  cases h1 with
  | nil z k hk => exact ⟨none, 0, 0, rfl, fun _ => rfl⟩
  | sl z es k a cap f => exact ⟨some a, _, _, rfl, fun h => by cases h⟩
 unfold aNil at h
 split at h
 ·rename_i e ht
  have heq := run_eq (w := w) (eq_slice (P := P) ht 9999 (a := a) (a' := none) (l := l) (c := c) (l' := 0) (c' := 0) (b := a.isNone) (by cases a <;> simp) w) rfl rfl
  have hg : (eqGuard .eql t x y (ev x) (ev y)).run P w = .ok () w := by rw [e1, e2]; simp [go_sem]
  have : (execOp ev ⟨dst, .binOp .eql t x y t', ty, pos, after, guard⟩).run P w = .ok (.value (.bool a.isNone)) w := by
   simp only [execOp, Sem.run_bind, hg, Result.andThen_ok]
   rw [e1, e2, heq.1]
   simp
  rw [this]
  exact sr_here hm (.sc _) (h _ hn)
 ·rename_i e ht
  have heq := run_eq (w := w) (eq_slice (P := P) ht 9999 (a := a) (a' := none) (l := l) (c := c) (l' := 0) (c' := 0) (b := a.isNone) (by cases a <;> simp) w) rfl rfl
  have hg : (eqGuard .neq t x y (ev x) (ev y)).run P w = .ok () w := by rw [e1, e2]; simp [go_sem]
  have : (execOp ev ⟨dst, .binOp .neq t x y t', ty, pos, after, guard⟩).run P w = .ok (.value (.bool !a.isNone)) w := by
   simp only [execOp, Sem.run_bind, hg, Result.andThen_ok]
   rw [e1, e2, heq.2]
   simp
  rw [this]
  exact sr_here hm (.sc _) (h _ hn)
 ·exact h.elim
end
def aRess (P : Program) (fr : Frm) (H : Mem) : List ResultVar → List AV → Prop
 | [], [] => True
 | .tmp t :: rs, r :: asl => fr t = r ∧ aRess P fr H rs asl
 | .cell p ty :: rs, r :: asl => aLoad P ty (fr p) H (fun r' _ => r' = r) ∧ aRess P fr H rs asl
 | _, _ => False
theorem aRess_run {P : Program} {N : Nat} {fr : Frm} {H : Mem} {g : Gh} {w : World} {tmps : Array Value} (hf : FR g H.length N fr tmps) (hm : MR g H w) (f : ResultVar → Sem Value) (hft : ∀ u, f (.tmp u) = pure (tmps.getD u undef))
  (hfc : ∀ a t, f (.cell a t) = (do loadVar t (← asAddr (tmps.getD a undef)))) : ∀ {rs : List ResultVar} {asl : List AV}, aRess P fr H rs asl →
  ∃ vs : List Value, (rs.mapM f).run P w = .ok vs w ∧ vs.length = asl.length ∧ ∀ (i : Nat) c, asl[i]? = some c → ∃ v, vs[i]? = some v ∧ VR g H.length c v
 | [], [], _ => ⟨[], by simp, rfl, fun i c h => by simp at h⟩
 | .tmp t :: rs, r :: asl, h => by
  obtain ⟨h1, h2⟩ := h
  obtain ⟨vs, e1, e2, e3⟩ := aRess_run hf hm f hft hfc h2
  refine ⟨tmps.getD t undef :: vs, by simp [List.mapM_cons, hft, e1], by simp [e2], fun i c hi => ?_⟩
  cases i with
  | zero => simp at hi; subst hi; exact ⟨_, rfl, h1 ▸ hf.vr t⟩
  | succ i => simp only [List.getElem?_cons_succ] at hi ⊢; exact e3 i c hi
 | .cell p ty :: rs, r :: asl, h => by
  obtain ⟨h1, h2⟩ := h
  obtain ⟨vs, e1, e2, e3⟩ := aRess_run hf hm f hft hfc h2
  obtain ⟨ad, e, u, hr, r', hk, hv⟩ := loadVar_sound hm (hf.vr p) h1
  subst hk
  refine ⟨u :: vs, ?_, by simp [e2], fun i c hi => ?_⟩
  ·rw [List.mapM_cons, hfc, e]
   simp [asAddr, hr, e1]
  ·cases i with
   | zero => simp at hi; subst hi; exact ⟨_, rfl, hv⟩
   | succ i => simp only [List.getElem?_cons_succ] at hi ⊢; exact e3 i c hi
 | [], _ :: _, h => h.elim
 | .tmp _ :: _, [], h => h.elim
 | .cell _ _ :: _, [], h => h.elim
def resF (tmps : Array Value) : ResultVar → Sem Value
 | .tmp t => pure (tmps.getD t undef)
 | .cell a t => do loadVar t (← asAddr (tmps.getD a undef))
theorem results_eq (fn : Func) (tmps : Array Value) : results fn tmps = (do let vs ← fn.results.mapM (resF tmps); pure (if h : vs.size = 1 then vs[0] else .tuple vs)) := by
 exact congrArg (fun f : ResultVar → Sem Value => (do let vs ← fn.results.mapM f; pure (if h : vs.size = 1 then vs[0] else Value.tuple vs) : Sem Value)) (funext fun x => by cases x <;> rfl)
theorem resS_list {P : Program} {fn : Func} {rs : List ResultVar} {asl : List AV} {fr : Frm} {H : Mem} {R : AV → Mem → Prop} (hr : fn.results = rs.toArray) (hl : asl.length ≠ 1) (ha : aRess P fr H rs asl) (h : R (.tp asl) H) : resS P fn fr H R := fun g w N tmps hf hm => by
 obtain ⟨vs, e1, e2, e3⟩ := aRess_run hf hm (resF tmps) (fun _ => rfl) (fun _ _ => rfl) ha
 refine ⟨.tuple vs.toArray, ?_, _, h, .tp asl vs.toArray (by simp [e2]) fun i c hc => ?_⟩
 ·rw [results_eq, hr, List.mapM_toArray]
  simp only [Sem.run_bind, Sem.run_map]
  rw [e1]
  simp [e2, hl]
 ·obtain ⟨v, v1, v2⟩ := e3 i c hc
  simpa [Array.getD_eq_getD_getElem?, v1] using v2
theorem resS_one {P : Program} {fn : Func} {rv : ResultVar} {r : AV} {fr : Frm} {H : Mem} {R : AV → Mem → Prop} (hr : fn.results = #[rv]) (ha : aRess P fr H [rv] [r]) (h : R r H) : resS P fn fr H R := fun g w N tmps hf hm => by
 obtain ⟨vs, e1, e2, e3⟩ := aRess_run hf hm (resF tmps) (fun _ => rfl) (fun _ _ => rfl) ha
 match vs, e2 with
 | [v], _ =>
  obtain ⟨v', v1, v2⟩ := e3 0 r rfl
  simp at v1; subst v1
  refine ⟨v, ?_, _, h, v2⟩
  rw [results_eq, show fn.results = [rv].toArray from hr, List.mapM_toArray]
  simp only [Sem.run_bind, Sem.run_map]
  rw [e1]
  simp
end Go.Proofs.YtaaamoicidfgcaaGreat.Am
namespace Go.Proofs.YtaaamoicidfgcaaGreat.Am
open Go
section
variable {P : Program} {fr : Frm} {H : Mem} {K : AV → Mem → Prop} {dst : Option Nat} {ty : TypeId} {pos : String} {after : Array Edge} {guard : Option (Nat × Bool)}
def aClear (P : Program) (t : TypeId) (x : AV) (H : Mem) (K : AV → Mem → Prop) : Prop :=
 match P.underlying t with
 | some (.slice e) =>
  (match tinf P e with
  | some (sz, _, some z) => (zeroCs z).length = sz ∧ (azeros (zeroCs z) 1).all AV.cellish = true ∧
   (match x with
   | .hs id off len _ s => s = sz ∧
    (match H[id]? with
    | some (.cells cs) => off + len * sz ≤ cs.length ∧ K (.tp []) (H.set id (.cells (setAt cs off (azeros (zeroCs z) len))))
    | _ => False)
   | _ => False)
  | _ => False)
 | _ => False
theorem azeros_cellish {zc : List AV} (h : (azeros zc 1).all AV.cellish = true) (n : Nat) : (azeros zc n).all AV.cellish = true := by
 induction n with
 | zero => rfl
 | succ n ih =>
  simp only [azeros, List.append_nil] at h
  simp only [azeros, List.all_append, h, ih, Bool.and_self]
theorem opS_clear {t : TypeId} {x : Operand} (h : aClear P t (aev fr x) H K) : OpS P ⟨dst, .call ⟨.builtin .clear, #[x], #[t]⟩, ty, pos, after, guard⟩ fr H K := fun g w ev hop hm => by
 have hx := hop x (by simp [Op.operands, Call.operands])
 have go : ∀ v w1, (Builtin.clear_ #[t] ty #[ev x]).run P w = .ok v w1 → (execOp ev ⟨dst, .call ⟨.builtin .clear, #[x], #[t]⟩, ty, pos, after, guard⟩).run P w = .ok (.value v) w1 := fun v w1 hr => by
  rw [execOp_b, b_clear]
  simp only [List.map_toArray, List.map_cons, List.map_nil, Sem.run_bind, hr, Result.andThen_ok, Sem.run_pure]
 generalize aev fr x = ax at *
 generalize ev x = vx at *
 unfold aClear at h
 split at h
 ·rename_i e ht
  split at h
  ·rename_i sz by_ zv hti
   obtain ⟨hzc, hce, h⟩ := h
   cases hx with
   | hs id off len mc s cap hid hl hmc hcap =>
    simp only at h
    obtain ⟨rfl, h⟩ := h
    split at h
    ·rename_i cs he
     obtain ⟨hle, h⟩ := h
     have hz : zv.cells.size = s := by rw [← hzc]; simp [zeroCs]
     have hv := madeCells_rel (g := g) (n := H.length) (v := zv) (len := len) hzc
     have hvl : (azeros (zeroCs zv) len).length = len * s := by rw [azeros_length, hzc]
     obtain ⟨w1, r1, r2, r3⟩ := put_hs (P := P) (k := off) (ws := (madeCells zv.cells (len * s)).toList) hm he (by simpa using hv) (azeros_cellish hce len) (by rw [hvl]; exact hle)
     have hzeq : Builtin.zeroCells zv.cells len = madeCells zv.cells (len * s) := by unfold Builtin.zeroCells madeCells; rw [hz]
     by_cases h0 : len = 0
     ·subst h0
      have : (Builtin.clear_ #[t] ty #[.slice (some ⟨(g.mu id).b, (g.mu id).o + off, none⟩) 0 cap]).run P w = .ok (.tuple #[]) w := by
       simp [Builtin.clear_, run_underlying ht]
      rw [go _ _ this]
      have hset : H.set id (.cells (setAt cs off (azeros (zeroCs zv) 0))) = H := by
       simp only [azeros, setAt]
       have hlt := lt_of_get he
       rw [List.getElem?_eq_getElem hlt] at he
       have := Option.some.inj he
       rw [← this]; exact List.set_getElem_self hlt
      rw [hset] at h
      exact sr_here hm (.tp [] #[] rfl fun i c hc => by simp at hc) h
     ·have : (Builtin.clear_ #[t] ty #[.slice (some ⟨(g.mu id).b, (g.mu id).o + off, none⟩) len cap]).run P w = .ok (.tuple #[]) w1 := by
       have hl0 : ∃ m, len = m + 1 := ⟨len - 1, by omega⟩
       obtain ⟨m, rfl⟩ := hl0
       simp [Builtin.clear_, run_underlying ht, run_zeroValue hti, hzeq, r1]
      rw [go _ _ this]
      exact ⟨_, _, g, h, .tp [] #[] rfl (fun i c hc => by simp at hc), r2, r3, by simp⟩
    ·exact h.elim
   | hn id off s a hid =>
    simp only at h
    obtain ⟨rfl, h⟩ := h
    split at h
    ·rename_i cs he
     obtain ⟨hle, h⟩ := h
     have : (Builtin.clear_ #[t] ty #[.slice a 0 0]).run P w = .ok (.tuple #[]) w := by
      cases a <;> simp [Builtin.clear_, run_underlying ht]
     rw [go _ _ this]
     simp only [azeros, setAt, mem_same he] at h
     exact sr_here hm (.tp [] #[] rfl fun i c hc => by simp at hc) h
    ·exact h.elim
   | _ => exact h.elim
  ·exact h.elim
 ·exact h.elim
end
end Go.Proofs.YtaaamoicidfgcaaGreat.Am
namespace Go.Proofs.YtaaamoicidfgcaaGreat.Am
open Go
abbrev Hints := Nat → Nat
end Go.Proofs.YtaaamoicidfgcaaGreat.Am
namespace Go.Proofs.YtaaamoicidfgcaaGreat.Am
open Go
section
variable {P : Program} {N n0 : Nat} {hint : Hints} {ops : Array Oper} {rest : List Oper} {o : Oper} {fr : Frm} {H : Mem} {K : Frm → Mem → Prop} {Q : Exit → Frm → Mem → Prop}
theorem thenQ_n {K : Frm → Mem → Prop} (h : K fr H) : thenQ K Q .normal fr H := h
theorem thenQ_ret {K : Frm → Mem → Prop} (h : Q .ret fr H) : thenQ K Q .ret fr H := h
theorem thenQ_exit {K : Frm → Mem → Prop} {id : Nat} (h : Q (.exit id) fr H) : thenQ K Q (.exit id) fr H := h
theorem blockQ_n {id : Nat} (h : Q .normal fr H) : blockQ id Q .normal fr H := h
theorem blockQ_ret {id : Nat} (h : Q .ret fr H) : blockQ id Q .ret fr H := h
theorem blockQ_exit {id : Nat} (h : Q .normal fr H) : blockQ id Q (.exit id) fr H := by simp only [blockQ, if_true]; exact h
theorem aw_true {c : Operand} {x y : Code} (hc : aev fr c = .sc (.bool true)) (h : aw P N n0 x fr H Q) : aw P N n0 (.cond c x y) fr H Q := aw_cond hc h
theorem aw_false {c : Operand} {x y : Code} (hc : aev fr c = .sc (.bool false)) (h : aw P N n0 y fr H Q) : aw P N n0 (.cond c x y) fr H Q := aw_cond hc h
theorem aw_test {c : Operand} {x y : Code} {b : Bool} (hc : aev fr c = .sc (.bool b)) (h1 : b = true → aw P N n0 x fr H Q) (h2 : b = false → aw P N n0 y fr H Q) : aw P N n0 (.cond c x y) fr H Q := by
 cases b
 ·exact aw_false hc (h2 rfl)
 ·exact aw_true hc (h1 rfl)
theorem resS_tmp {P : Program} {fn : Func} {t : Tmp} {fr : Frm} {H : Mem} {R : AV → Mem → Prop} (hr : fn.results = #[.tmp t]) (h : R (fr t) H) : resS P fn fr H R := fun _ w _ tmps hf _ =>
 ⟨_, results_tmp hr tmps P w, fr t, h, hf.vr t⟩
theorem resS_none {P : Program} {fn : Func} {fr : Frm} {H : Mem} {R : AV → Mem → Prop} (hr : fn.results = #[]) (h : R (.tp []) H) : resS P fn fr H R := fun _ w _ tmps _ _ =>
 ⟨_, results_none hr tmps P w, _, h, .tp _ _ rfl fun i c hc => by simp at hc⟩
end
end Go.Proofs.YtaaamoicidfgcaaGreat.Am
namespace Go.Proofs.YtaaamoicidfgcaaGreat.Am
open Go
def oneClo (c : List Nat) (o : Oper) : Nat := o.after.toList.foldl (fun s e => if Region.binds .any e then s ||| 2 ^ e.on ||| c.getD e.on 0 else s) 0
def cloL : List Oper → List Nat → List Nat
  | [], acc => acc
  | o :: r, acc => cloL r (acc ++ [oneClo acc o])
def ordered (c : List Nat) (i j : Nat) : Bool := if j < i then (c.getD i 0).testBit j else (c.getD j 0).testBit i
def okD (l : List Oper) (cls : List Nat) : Bool :=
  let c := cloL l []
  (List.range l.length).all fun i => match l[i]? with
    | none => false
    | some o =>
      (c.getD i 0 == oneClo c o) && (o.after.toList.all fun e => !Region.binds .any e || decide (e.on < i)) &&
      (List.range l.length).all fun j => j == i || match l[j]? with
        | none => false
        | some oj =>
          (match oj.dst with
          | some d => (!(o.looksAt l.toArray).contains d || ordered c i j) && o.dst != some d
          | none => true) &&
          (cls.getD i 0 == 0 || decide (cls.getD j 0 < 2) || (cls.getD i 0 == 1 && cls.getD j 0 == 3) || ordered c i j)
theorem testBit_foldl {c : List Nat} {j : Nat} : ∀ {l : List Edge} {s : Nat}, (l.foldl (fun s e => if Region.binds .any e then s ||| 2 ^ e.on ||| c.getD e.on 0 else s) s).testBit j = true →
    s.testBit j = true ∨ ∃ e ∈ l, Region.binds .any e = true ∧ (e.on = j ∨ (c.getD e.on 0).testBit j = true)
  | [], s, h => .inl h
  | e :: l, s, h => by
    rw [List.foldl_cons] at h
    rcases testBit_foldl h with h1 | ⟨e', he', hb, h2⟩
    · split at h1
      · rename_i hb
        rw [Nat.testBit_or, Nat.testBit_or, Bool.or_eq_true, Bool.or_eq_true] at h1
        rcases h1 with (h1 | h1) | h1
        · exact .inl h1
        · rw [Nat.testBit_two_pow] at h1
          exact .inr ⟨e, List.mem_cons_self .., hb, .inl (by simpa using h1)⟩
        · exact .inr ⟨e, List.mem_cons_self .., hb, .inr h1⟩
      · exact .inl h1
    · exact .inr ⟨e', List.mem_cons_of_mem _ he', hb, h2⟩
structure OkD (l : List Oper) (cls : List Nat) (B : Nat → Nat → Prop) : Prop where
  clo : ∀ (i : Nat) o, l[i]? = some o → ∀ j, B i j → ∃ e ∈ o.after, Region.binds .any e = true ∧ (e.on = j ∨ B e.on j)
  low : ∀ (i : Nat) o, l[i]? = some o → ∀ e ∈ o.after, Region.binds .any e = true → e.on < i
  looks : ∀ (i j : Nat) o oj, l[i]? = some o → l[j]? = some oj → j ≠ i → ∀ d, oj.dst = some d → d ∈ o.looksAt l.toArray → (j < i ∧ B i j) ∨ (i < j ∧ B j i)
  one : ∀ (i j : Nat) o oj, l[i]? = some o → l[j]? = some oj → j ≠ i → ∀ d, oj.dst = some d → o.dst ≠ some d
  loud : ∀ (i j : Nat) o oj, l[i]? = some o → l[j]? = some oj → j ≠ i → cls.getD i 0 ≠ 0 → 2 ≤ cls.getD j 0 → ¬ (cls.getD i 0 = 1 ∧ cls.getD j 0 = 3) → (j < i ∧ B i j) ∨ (i < j ∧ B j i)
theorem ordered_spec {c : List Nat} {i j : Nat} (hne : j ≠ i) (h : ordered c i j = true) : (j < i ∧ (c.getD i 0).testBit j = true) ∨ (i < j ∧ (c.getD j 0).testBit i = true) := by
  unfold ordered at h
  split at h
  · exact .inl ⟨by assumption, h⟩
  · exact .inr ⟨by omega, h⟩
theorem okD_spec {l : List Oper} {cls : List Nat} (h : okD l cls = true) : OkD l cls fun i j => ((cloL l []).getD i 0).testBit j = true := by
  have h0 : ∀ (i : Nat) o, l[i]? = some o → ((cloL l []).getD i 0 = oneClo (cloL l []) o) ∧ (∀ e ∈ o.after, Region.binds .any e = true → e.on < i) ∧
      ∀ (j : Nat) oj, l[j]? = some oj → j ≠ i → (∀ d, oj.dst = some d → (d ∈ o.looksAt l.toArray → ordered (cloL l []) i j = true) ∧ o.dst ≠ some d) ∧
        (cls.getD i 0 ≠ 0 → 2 ≤ cls.getD j 0 → ¬ (cls.getD i 0 = 1 ∧ cls.getD j 0 = 3) → ordered (cloL l []) i j = true) := by
    intro i o hi
    have hlt : i < l.length := by
      rcases Nat.lt_or_ge i l.length with hh | hh
      · exact hh
      · rw [List.getElem?_eq_none hh] at hi; cases hi
    unfold okD at h
    have h1 := List.all_eq_true.1 h i (List.mem_range.2 hlt)
    simp only [hi, Bool.and_eq_true] at h1
    obtain ⟨⟨h1, h2⟩, h3⟩ := h1
    refine ⟨by simpa using h1, fun e he hb => ?_, fun j oj hj hne => ?_⟩
    · have := List.all_eq_true.1 h2 e (Array.mem_toList_iff.2 he)
      simpa [hb] using this
    · have hjl : j < l.length := by
        rcases Nat.lt_or_ge j l.length with hh | hh
        · exact hh
        · rw [List.getElem?_eq_none hh] at hj; cases hj
      have h4 := List.all_eq_true.1 h3 j (List.mem_range.2 hjl)
      simp only [hj, Bool.or_eq_true, beq_iff_eq, hne, false_or, Bool.and_eq_true] at h4
      obtain ⟨h5, h6⟩ := h4
      refine ⟨fun d hd => ?_, fun hc hl hx => ?_⟩
      · rw [hd] at h5
        simp only [Bool.and_eq_true, Bool.or_eq_true, Bool.not_eq_true', bne_iff_ne] at h5
        refine ⟨fun hm => ?_, h5.2⟩
        rcases h5.1 with hc | hc
        · rw [List.contains_eq_mem] at hc; simp [hm] at hc
        · exact hc
      · rcases h6 with ((h6 | h6) | h6) | h6
        · exact absurd h6 hc
        · have h7 : cls.getD j 0 < 2 := by simpa using h6
          omega
        · exact absurd (by simpa using h6) hx
        · exact h6
  refine ⟨fun i o hi j hb => ?_, fun i o hi => (h0 i o hi).2.1, fun i j o oj hi hj hne d hd hm => ordered_spec hne (((h0 i o hi).2.2 j oj hj hne).1 d hd |>.1 hm),
    fun i j o oj hi hj hne d hd => (((h0 i o hi).2.2 j oj hj hne).1 d hd).2, fun i j o oj hi hj hne hc hl hx => ordered_spec hne (((h0 i o hi).2.2 j oj hj hne).2 hc hl hx)⟩
  rw [(h0 i o hi).1, oneClo] at hb
  rcases testBit_foldl hb with hz | ⟨e, he, hb, h2⟩
  · simp at hz
  · exact ⟨e, Array.mem_toList_iff.1 he, hb, h2⟩
theorem OpS.congr {P : Program} {o : Oper} {fr fr' : Frm} {H : Mem} {K : AV → Mem → Prop} (hf : ∀ t, Operand.tmp t ∈ o.op.operands → fr' t = fr t) (h : OpS P o fr H K) : OpS P o fr' H K := fun g w ev h1 h2 =>
  h g w ev (fun x hx => by
    have := h1 x hx
    cases x with
    | tmp t => simp only [aev, hf t hx] at this; exact this
    | _ => exact this) h2
def DStep (P : Program) (J : Mem → Prop) (z : Prop) (ops : Array Oper) (c : Nat) (o : Oper) (fr : Frm) (B H : Mem) (r : AV) (H' : Mem) : Prop :=
  (c < 2 → H' = H) ∧ (c ≠ 2 → H <+: H') ∧ (H' = H ∨ J H' ∨ z) ∧
  ((agd ops fr o = some true ∧ ((c = 0 ∧ ∀ H0, J H0 → OpS P o fr H0 fun r1 H1 => r1 = r ∧ H1 = H0) ∨ (c = 1 ∧ ∀ H0, B <+: H0 → OpS P o fr H0 fun r1 H1 => r1 = r ∧ H1 = H0) ∨ (2 ≤ c ∧ OpS P o fr H fun r1 H1 => r1 = r ∧ H1 = H'))) ∨
   (agd ops fr o = some false ∧ r = .sc undef ∧ H' = H))
theorem DStep.to {P : Program} {J : Mem → Prop} {z z' : Prop} (hz : z → z') {ops : Array Oper} {c : Nat} {o : Oper} {fr : Frm} {B H : Mem} {r : AV} {H' : Mem} (h : DStep P J z ops c o fr B H r H') : DStep P J z' ops c o fr B H r H' :=
  ⟨h.1, h.2.1, h.2.2.1.imp id fun q => q.imp id hz, h.2.2.2⟩
def DRun (P : Program) (J : Mem → Prop) (T : Bool) (ops : Array Oper) : List Nat → List Oper → Frm → Mem → Mem → (Frm → Mem → Prop) → Prop
  | _, [], fr, _, H, K => K fr H
  | cs, o :: rest, fr, B, H, K => ∃ r H', DStep P J (T = true ∧ rest = []) ops (cs.headD 0) o fr B H r H' ∧ DRun P J T ops cs.tail rest (fr.put o.dst r) (if cs.headD 0 = 2 then H' else B) H' K
structure Trace (P : Program) (J : Mem → Prop) (T : Bool) (ops : Array Oper) (l : List Oper) (cls : List Nat) (F : Nat → Frm) (R : Nat → AV) (M Bs : Nat → Mem) : Prop where
  step : ∀ (i : Nat) o, l[i]? = some o → DStep P J (T = true ∧ i + 1 = l.length) ops (cls.getD i 0) o (F i) (Bs i) (M i) (R i) (M (i + 1)) ∧ F (i + 1) = (F i).put o.dst (R i) ∧ Bs (i + 1) = if cls.getD i 0 = 2 then M (i + 1) else Bs i
theorem Trace.of_run {P : Program} {J : Mem → Prop} {T : Bool} {ops : Array Oper} {K : Frm → Mem → Prop} : ∀ {l : List Oper} {cls : List Nat} {fr : Frm} {B H : Mem}, DRun P J T ops cls l fr B H K →
    ∃ F R M Bs, Trace P J T ops l cls F R M Bs ∧ F 0 = fr ∧ M 0 = H ∧ Bs 0 = B ∧ K (F l.length) (M l.length)
  | [], cls, fr, B, H, h => ⟨fun _ => fr, fun _ => .any, fun _ => H, fun _ => B, ⟨fun i o ho => by simp at ho⟩, rfl, rfl, rfl, h⟩
  | o :: rest, cls, fr, B, H, ⟨r, H', hs, hr⟩ => by
    obtain ⟨F, R, M, Bs, ht, h1, h2, h4, h3⟩ := Trace.of_run hr
    refine ⟨fun i => if i = 0 then fr else F (i - 1), fun i => if i = 0 then r else R (i - 1), fun i => if i = 0 then H else M (i - 1), fun i => if i = 0 then B else Bs (i - 1), ⟨fun i o' ho => ?_⟩, by simp, by simp, by simp, by simpa using h3⟩
    cases i with
    | zero =>
      simp at ho
      subst ho
      simp only [if_true, Nat.zero_add, Nat.one_ne_zero, if_false, Nat.sub_self, h1, h2, h4]
      have hs := hs.to (z' := T = true ∧ 1 = (o :: rest).length) fun ⟨q1, q2⟩ => ⟨q1, by rw [q2]; rfl⟩
      cases cls with
      | nil => exact ⟨by simpa using hs, trivial, by simp⟩
      | cons c cs => exact ⟨by simpa using hs, trivial, by simp⟩
    | succ i =>
      simp only [List.getElem?_cons_succ] at ho
      have := ht.step i o' ho
      simp only [Nat.succ_ne_zero, if_false, Nat.add_sub_cancel]
      refine ⟨?_, this.2.1, ?_⟩
      · have q := this.1.to (z' := T = true ∧ i + 1 + 1 = (o :: rest).length) fun ⟨q1, q2⟩ => ⟨q1, by rw [List.length_cons, q2]⟩
        cases cls with
        | nil => simpa using q
        | cons c cs => simpa using q
      · cases cls with
        | nil => simpa using this.2.2
        | cons c cs => simpa using this.2.2
section
variable {P : Program} {J : Mem → Prop} {T : Bool} {l : List Oper} {cls : List Nat} {F : Nat → Frm} {R : Nat → AV} {M Bs : Nat → Mem} {B : Nat → Nat → Prop}
theorem get_lt {i : Nat} {o : Oper} (h : l[i]? = some o) : i < l.length := by
  rcases Nat.lt_or_ge i l.length with hh | hh
  · exact hh
  · rw [List.getElem?_eq_none hh] at h; cases h
theorem get_of_lt {i : Nat} (h : i < l.length) : ∃ o, l[i]? = some o := ⟨l[i], List.getElem?_eq_getElem h⟩
theorem Trace.kept (ht : Trace P J T l.toArray l cls F R M Bs) {t : Nat} : ∀ {i : Nat}, i ≤ l.length → (∀ j oj, j < i → l[j]? = some oj → oj.dst ≠ some t) → F i t = F 0 t
  | 0, _, _ => rfl
  | i + 1, hi, h => by
    obtain ⟨o, ho⟩ := get_of_lt (l := l) (i := i) (by omega)
    rw [(ht.step i o ho).2.1]
    have h1 := h i o (by omega) ho
    have : ((F i).put o.dst (R i)) t = F i t := by
      cases hd : o.dst with
      | none => rfl
      | some d => simp only [Frm.put, Frm.set]; rw [if_neg (fun e => h1 (by rw [hd, e]))]
    rw [this]
    exact ht.kept (by omega) fun j oj hj => h j oj (by omega)
theorem Trace.got (ht : Trace P J T l.toArray l cls F R M Bs) (hok : OkD l cls B) {t j : Nat} {oj : Oper} (hj : l[j]? = some oj) (hd : oj.dst = some t) : ∀ {i : Nat}, i ≤ l.length → j < i → F i t = R j
  | 0, _, h => absurd h (Nat.not_lt_zero _)
  | i + 1, hi, h => by
    obtain ⟨o, ho⟩ := get_of_lt (l := l) (i := i) (by omega)
    rw [(ht.step i o ho).2.1]
    by_cases e : i = j
    · subst e
      rw [hj] at ho; cases ho
      simp [hd, Frm.put, Frm.set]
    · have h1 := hok.one i j o oj ho hj (fun x => e x.symm) t hd
      have : ((F i).put o.dst (R i)) t = F i t := by
        cases hd : o.dst with
        | none => rfl
        | some d => simp only [Frm.put, Frm.set]; rw [if_neg (fun e => h1 (by rw [hd, e]))]
      rw [this]
      exact ht.got hok hj hd (by omega) (by omega)
theorem Trace.still (ht : Trace P J T l.toArray l cls F R M Bs) {a : Nat} : ∀ {b : Nat}, a ≤ b → b ≤ l.length → (∀ j, a ≤ j → j < b → cls.getD j 0 < 2) → M b = M a
  | 0, hab, _, _ => by
    cases Nat.le_zero.1 hab
    rfl
  | b + 1, hab, hb, h => by
    rcases Nat.lt_or_ge a (b + 1) with hl | hl
    · obtain ⟨o, ho⟩ := get_of_lt (l := l) (i := b) (by omega)
      rw [(ht.step b o ho).1.1 (h b (by omega) (by omega))]
      exact ht.still (by omega) (by omega) fun j h1 h2 => h j h1 (by omega)
    · obtain rfl : a = b + 1 := by omega
      rfl
theorem Trace.inv (ht : Trace P J T l.toArray l cls F R M Bs) (h0 : J (M 0)) : ∀ {b : Nat}, b ≤ l.length → (T = true → b < l.length) → J (M b)
  | 0, _, _ => h0
  | b + 1, hb, hT => by
    obtain ⟨o, ho⟩ := get_of_lt (l := l) (i := b) (by omega)
    rcases (ht.step b o ho).1.2.2.1 with h | h | ⟨h, h2⟩
    · rw [h]; exact ht.inv h0 (by omega) (fun _ => by omega)
    · exact h
    · have := hT h; omega
theorem Trace.grow (ht : Trace P J T l.toArray l cls F R M Bs) {a : Nat} : ∀ {b : Nat}, a ≤ b → b ≤ l.length → (∀ j, a ≤ j → j < b → cls.getD j 0 ≠ 2) → M a <+: M b
  | 0, hab, _, _ => by
    cases Nat.le_zero.1 hab
    exact List.prefix_refl _
  | b + 1, hab, hb, h => by
    rcases Nat.lt_or_ge a (b + 1) with hl | hl
    · obtain ⟨o, ho⟩ := get_of_lt (l := l) (i := b) (by omega)
      exact (ht.grow (by omega) (by omega) fun j h1 h2 => h j h1 (by omega)).trans ((ht.step b o ho).1.2.1 (h b (by omega) (by omega)))
    · obtain rfl : a = b + 1 := by omega
      exact List.prefix_refl _
theorem Trace.last (ht : Trace P J T l.toArray l cls F R M Bs) (h0 : Bs 0 = M 0) : ∀ {i : Nat}, i ≤ l.length → ∃ b, b ≤ i ∧ Bs i = M b ∧ (∀ j, b ≤ j → j < i → cls.getD j 0 ≠ 2) ∧ (b = 0 ∨ cls.getD (b - 1) 0 = 2)
  | 0, _ => ⟨0, Nat.le_refl _, h0, fun j _ h => absurd h (Nat.not_lt_zero _), .inl rfl⟩
  | i + 1, hi => by
    obtain ⟨o, ho⟩ := get_of_lt (l := l) (i := i) (by omega)
    have h1 := (ht.step i o ho).2.2
    by_cases hc : cls.getD i 0 = 2
    · rw [if_pos hc] at h1
      exact ⟨i + 1, Nat.le_refl _, h1, fun j a b => by omega, .inr (by simpa using hc)⟩
    · rw [if_neg hc] at h1
      obtain ⟨b, q1, q2, q3, q4⟩ := ht.last h0 (i := i) (by omega)
      refine ⟨b, by omega, h1.trans q2, fun j a1 a2 => ?_, q4⟩
      by_cases e : j = i
      · subst e; exact hc
      · exact q3 j a1 (by omega)
structure Done (l : List Oper) (cls : List Nat) (F : Nat → Frm) (R : Nat → AV) (M : Nat → Mem) (D : Nat → Prop) (fr : Frm) (H : Mem) : Prop where
  down : ∀ i o, l[i]? = some o → D i → ∀ e ∈ o.after, Region.binds .any e = true → D e.on
  put : ∀ i o t, l[i]? = some o → D i → o.dst = some t → fr t = R i
  keep : ∀ t, (∀ i o, l[i]? = some o → D i → o.dst ≠ some t) → fr t = F 0 t
  mem : ∃ m, m ≤ l.length ∧ (∀ j, j < l.length → 2 ≤ cls.getD j 0 → (D j ↔ j < m)) ∧ H = M m
theorem Done.clo {D : Nat → Prop} (hok : OkD l cls B) (hdn : ∀ i o, l[i]? = some o → D i → ∀ e ∈ o.after, Region.binds .any e = true → D e.on) : ∀ (n i : Nat) o, i < n → l[i]? = some o →
    (∀ e ∈ o.after, Region.binds .any e = true → D e.on) → ∀ j, B i j → D j
  | 0, i, o, h, _, _, _, _ => absurd h (Nat.not_lt_zero _)
  | n + 1, i, o, h, hi, hp, j, hb => by
    obtain ⟨e, he, hbi, h2⟩ := hok.clo i o hi j hb
    rcases h2 with h2 | h2
    · rw [← h2]; exact hp e he hbi
    · have hlt := hok.low i o hi e he hbi
      obtain ⟨o2, ho2⟩ := get_of_lt (l := l) (i := e.on) (Nat.lt_trans hlt (get_lt hi))
      exact Done.clo hok hdn n e.on o2 (by omega) ho2 (hdn e.on o2 ho2 (hp e he hbi)) j h2
theorem Done.looks (ht : Trace P J T l.toArray l cls F R M Bs) (hok : OkD l cls B) {D : Nat → Prop} {fr : Frm} {H : Mem} (hD : Done l cls F R M D fr H) {i : Nat} {o : Oper} (hi : l[i]? = some o) (hn : ¬ D i)
    (hp : ∀ e ∈ o.after, Region.binds .any e = true → D e.on) {t : Nat} (htl : t ∈ o.looksAt l.toArray) : fr t = F i t := by
  have hlt := get_lt hi
  by_cases hw : ∃ j oj, l[j]? = some oj ∧ j ≠ i ∧ oj.dst = some t
  · obtain ⟨j, oj, hj, hne, hd⟩ := hw
    rcases hok.looks i j o oj hi hj hne t hd htl with ⟨hji, hb⟩ | ⟨hij, hb⟩
    · have hDj := Done.clo hok hD.down (i + 1) i o (by omega) hi hp j hb
      rw [hD.put j oj t hj hDj hd, ht.got hok hj hd (by omega) hji]
    · have hDj : ¬ D j := fun hDj => hn (Done.clo hok hD.down (j + 1) j oj (by omega) hj (hD.down j oj hj hDj) i hb)
      rw [hD.keep t fun k ok hk hDk hdk => ?_, ht.kept (i := i) (by omega) fun k ok hkl hk hdk => ?_]
      · have : k = j := Classical.byContradiction fun e => hok.one k j ok oj hk hj (fun x => e x.symm) t hd hdk
        omega
      · have : k = j := Classical.byContradiction fun e => hok.one k j ok oj hk hj (fun x => e x.symm) t hd hdk
        subst this
        exact hDj hDk
  · have hw' : ∀ j oj, l[j]? = some oj → j ≠ i → oj.dst ≠ some t := fun j oj hj hne hd => hw ⟨j, oj, hj, hne, hd⟩
    rw [hD.keep t fun k ok hk hDk => hw' k ok hk fun e => hn (e ▸ hDk), ht.kept (i := i) (by omega) fun k ok hkl hk => hw' k ok hk (by omega)]
theorem Done.mem' (ht : Trace P J T l.toArray l cls F R M Bs) {D : Nat → Prop} {fr : Frm} {H : Mem} (hD : Done l cls F R M D fr H) (m : Nat) (hm : m ≤ l.length) (h : ∀ j, j < l.length → 2 ≤ cls.getD j 0 → (D j ↔ j < m)) : H = M m := by
  obtain ⟨m', hm', h', rfl⟩ := hD.mem
  rcases Nat.le_total m m' with hl | hl
  · refine ht.still hl hm' fun j h1 h2 => Nat.lt_of_not_le fun hc => ?_
    have := (h j (by omega) hc).1 ((h' j (by omega) hc).2 h2); omega
  · refine (ht.still hl hm fun j h1 h2 => Nat.lt_of_not_le fun hc => ?_).symm
    have := (h' j (by omega) hc).1 ((h j (by omega) hc).2 h2); omega
theorem Done.here (ht : Trace P J T l.toArray l cls F R M Bs) (hok : OkD l cls B) {D : Nat → Prop} {fr : Frm} {H : Mem} (hD : Done l cls F R M D fr H) {i : Nat} {o : Oper} (hi : l[i]? = some o) (hn : ¬ D i)
    (hp : ∀ e ∈ o.after, Region.binds .any e = true → D e.on) (hc : 2 ≤ cls.getD i 0) : H = M i := by
  refine hD.mem' ht i (Nat.le_of_lt (get_lt hi)) fun j hj hl => ⟨fun hDj => ?_, fun hji => ?_⟩
  · obtain ⟨oj, hoj⟩ := get_of_lt hj
    by_cases e : j = i
    · subst e; exact absurd hDj hn
    · rcases hok.loud i j o oj hi hoj e (by omega) hl (by omega) with ⟨h1, _⟩ | ⟨_, hb⟩
      · exact h1
      · exact absurd (Done.clo hok hD.down (j + 1) j oj (by omega) hoj (hD.down j oj hoj hDj) i hb) hn
  · obtain ⟨oj, hoj⟩ := get_of_lt hj
    rcases hok.loud i j o oj hi hoj (by omega) (by omega) hl (by omega) with ⟨_, hb⟩ | ⟨h1, _⟩
    · exact Done.clo hok hD.down (i + 1) i o (by omega) hi hp j hb
    · omega
theorem Done.look (ht : Trace P J T l.toArray l cls F R M Bs) (h0 : Bs 0 = M 0) (hok : OkD l cls B) {D : Nat → Prop} {fr : Frm} {H : Mem} (hD : Done l cls F R M D fr H) {i : Nat} {o : Oper} (hi : l[i]? = some o) (hn : ¬ D i)
    (hp : ∀ e ∈ o.after, Region.binds .any e = true → D e.on) (hc : cls.getD i 0 = 1) : Bs i <+: H := by
  have hil := get_lt hi
  obtain ⟨b, q1, q2, q3, q4⟩ := ht.last h0 (i := i) (by omega)
  obtain ⟨m, hm, h, rfl⟩ := hD.mem
  rw [q2]
  have hbm : b ≤ m := by
    rcases q4 with rfl | q4
    · omega
    · by_cases hb0 : b = 0
      · omega
      obtain ⟨oj, hoj⟩ := get_of_lt (l := l) (i := b - 1) (by omega)
      rcases hok.loud i (b - 1) o oj hi hoj (by omega) (by omega) (by omega) (by omega) with ⟨_, hb⟩ | ⟨h1, _⟩
      · have := (h (b - 1) (by omega) (by omega)).1 (Done.clo hok hD.down (i + 1) i o (by omega) hi hp (b - 1) hb)
        omega
      · omega
  refine ht.grow hbm hm fun j h1 h2 h3 => ?_
  rcases Nat.lt_or_ge j i with hji | hji
  · exact q3 j h1 hji h3
  · have hDj := (h j (by omega) (by omega)).2 h2
    obtain ⟨oj, hoj⟩ := get_of_lt (l := l) (i := j) (by omega)
    rcases hok.loud i j o oj hi hoj (fun e => by subst e; omega) (by omega) (by omega) (by omega) with ⟨h4, _⟩ | ⟨_, hb⟩
    · omega
    · exact hn (Done.clo hok hD.down (j + 1) j oj (by omega) hoj (hD.down j oj hoj hDj) i hb)
theorem Done.next (ht : Trace P J T l.toArray l cls F R M Bs) (hok : OkD l cls B) {D : Nat → Prop} {fr : Frm} {H : Mem} (hD : Done l cls F R M D fr H) {i : Nat} {o : Oper} (hi : l[i]? = some o) (hn : ¬ D i)
    (hp : ∀ e ∈ o.after, Region.binds .any e = true → D e.on) : Done l cls F R M (fun j => j = i ∨ D j) (fr.put o.dst (R i)) (if 2 ≤ cls.getD i 0 then M (i + 1) else H) := by
  refine ⟨fun j oj hj hDj e he hb => ?_, fun j oj t hj hDj hd => ?_, fun t h => ?_, ?_⟩
  · rcases hDj with rfl | hDj
    · rw [hi] at hj; cases hj
      exact .inr (hp e he hb)
    · exact .inr (hD.down j oj hj hDj e he hb)
  · by_cases e : j = i
    · subst e
      rw [hi] at hj; cases hj
      simp [hd, Frm.put, Frm.set]
    · have h1 := hok.one i j o oj hi hj e t hd
      have : (fr.put o.dst (R i)) t = fr t := by
        cases hd : o.dst with
        | none => rfl
        | some d => simp only [Frm.put, Frm.set]; rw [if_neg (fun e => h1 (by rw [hd, e]))]
      rw [this]
      exact hD.put j oj t hj (hDj.resolve_left e) hd
  · have h1 := h i o hi (.inl rfl)
    have : (fr.put o.dst (R i)) t = fr t := by
      cases hd : o.dst with
      | none => rfl
      | some d => simp only [Frm.put, Frm.set]; rw [if_neg (fun e => h1 (by rw [hd, e]))]
    rw [this]
    exact hD.keep t fun j oj hj hDj => h j oj hj (.inr hDj)
  · by_cases hl : 2 ≤ cls.getD i 0
    · rw [if_pos hl]
      refine ⟨i + 1, get_lt hi, fun j hj hl2 => ⟨fun hDj => ?_, fun hji => ?_⟩, rfl⟩
      · rcases hDj with rfl | hDj
        · omega
        · by_cases e : j = i
          · omega
          obtain ⟨oj, hoj⟩ := get_of_lt hj
          rcases hok.loud i j o oj hi hoj e (by omega) hl2 (by omega) with ⟨h4, _⟩ | ⟨_, hb⟩
          · omega
          · exact absurd (Done.clo hok hD.down (j + 1) j oj (by omega) hoj (hD.down j oj hoj hDj) i hb) hn
      · by_cases e : j = i
        · exact .inl e
        obtain ⟨oj, hoj⟩ := get_of_lt hj
        rcases hok.loud i j o oj hi hoj e (by omega) hl2 (by omega) with ⟨_, hb⟩ | ⟨h4, _⟩
        · exact .inr (Done.clo hok hD.down (i + 1) i o (by omega) hi hp j hb)
        · omega
    · rw [if_neg hl]
      obtain ⟨m, hm, h, e⟩ := hD.mem
      refine ⟨m, hm, fun j hj h3 => ⟨fun hDj => (h j hj h3).1 (hDj.resolve_left fun e => by subst e; exact hl h3), fun hjm => .inr ((h j hj h3).2 hjm)⟩, e⟩
theorem Done.all (ht : Trace P J T l.toArray l cls F R M Bs) (hok : OkD l cls B) {D : Nat → Prop} {fr : Frm} {H : Mem} (hD : Done l cls F R M D fr H) (ha : ∀ i, i < l.length → D i) : fr = F l.length ∧ H = M l.length := by
  refine ⟨funext fun t => ?_, hD.mem' ht _ (Nat.le_refl _) fun j hj _ => ⟨fun _ => hj, fun _ => ha j hj⟩⟩
  by_cases hw : ∃ (j : Nat) (oj : Oper), l[j]? = some oj ∧ oj.dst = some t
  · obtain ⟨j, oj, hj, hd⟩ := hw
    rw [hD.put j oj t hj (ha j (get_lt hj)) hd, ht.got hok hj hd (Nat.le_refl _) (get_lt hj)]
  · rw [hD.keep t fun k ok hk _ hd => hw ⟨k, ok, hk, hd⟩, ht.kept (i := l.length) (Nat.le_refl _) fun k ok _ hk hd => hw ⟨k, ok, hk, hd⟩]
end
theorem draw_sound {P : Program} {J : Mem → Prop} {T : Bool} {N : Nat} {l : List Oper} {cls : List Nat} {F : Nat → Frm} {R : Nat → AV} {M Bs : Nat → Mem} {B : Nat → Nat → Prop} {QQ : Exit → Act → World → Prop} {n0 : Nat} {g0 : Gh} {w0 : World}
    (ht : Trace P J T l.toArray l cls F R M Bs) (hB0 : Bs 0 = M 0) (hJ : J (M 0)) (hok : OkD l cls B) (hT : T = true → (∀ i, i + 1 < l.length → B (l.length - 1) i) ∧ 2 ≤ cls.getD (l.length - 1) 0) (hlt : dstsLt l N = true)
    (hQ : ∀ (g : Gh) (w : World) (a : Act), a.defers = [] → FR g (M l.length).length N (F l.length) a.tmps → MR g (M l.length) w → Ev n0 g0 w0 g w → n0 ≤ (M l.length).length → QQ .normal a w) :
    ∀ (fuel : Nat) (listed : Array Bool) (fr : Frm) (H : Mem) (g : Gh) (w : World) (a : Act), listed.size = l.length → listed.count false ≤ fuel → Done l cls F R M (fun i => listed.getD i false = true) fr H →
      a.defers = [] → FR g H.length N fr a.tmps → MR g H w → Ev n0 g0 w0 g w → n0 ≤ H.length → wpAny P .any l.toArray QQ fuel listed a w := by
  have fin : ∀ (listed : Array Bool) (fr : Frm) (H : Mem) (g : Gh) (w : World) (a : Act), listed.size = l.length → Done l cls F R M (fun i => listed.getD i false = true) fr H →
      a.defers = [] → FR g H.length N fr a.tmps → MR g H w → Ev n0 g0 w0 g w → n0 ≤ H.length → Region.ready .any l.toArray listed = [] → QQ .normal a w := by
    intro listed fr H g w a hsz hD hd hf hm he hn hr
    have hall : ∀ (n i : Nat), i < n → i < l.length → listed.getD i false = true := by
      intro n
      induction n with
      | zero => intro i h; exact absurd h (Nat.not_lt_zero _)
      | succ n ih =>
        intro i h hil
        apply Classical.byContradiction
        intro hc
        obtain ⟨o, ho⟩ := get_of_lt hil
        have : i ∈ Region.ready .any l.toArray listed := mem_ready.2 ⟨by simp [hsz, hil] at hc ⊢; exact hc, o, by simpa using ho, fun e he hb => ih _ (by have := hok.low i o ho e he hb; omega) (by have := hok.low i o ho e he hb; omega)⟩
        rw [hr] at this
        cases this
    obtain ⟨h1, h2⟩ := hD.all ht hok fun i hi => hall (i + 1) i (by omega) hi
    subst h1 h2
    exact hQ g w a hd hf hm he hn
  intro fuel
  induction fuel with
  | zero =>
    intro listed fr H g w a hsz hc hD hd hf hm he hn
    have hr : Region.ready .any l.toArray listed = [] := by
      apply List.eq_nil_iff_forall_not_mem.2
      intro i hi
      obtain ⟨h0, o, ho, _⟩ := mem_ready.1 hi
      have hil : i < listed.size := by rw [hsz]; exact get_lt (by simpa using ho)
      have : false ∈ listed := by
        rw [Array.mem_iff_getElem]
        exact ⟨i, hil, by simpa [hil] using h0⟩
      have := Array.count_pos_iff.2 this
      omega
    exact ⟨hr, fin listed fr H g w a hsz hD hd hf hm he hn hr⟩
  | succ fuel ih =>
    intro listed fr H g w a hsz hc hD hd hf hm he hn
    refine ⟨fin listed fr H g w a hsz hD hd hf hm he hn, fun i hi => ?_⟩
    obtain ⟨h0, o, ho, hp⟩ := mem_ready.1 hi
    have hi' : l[i]? = some o := by simpa using ho
    have hil : i < l.length := get_lt hi'
    have hls : i < listed.size := by omega
    have hn0 : ¬ listed.getD i false = true := by simp [hls] at h0 ⊢; exact h0
    have hnext := hD.next ht hok hi' hn0 hp
    have hDeq : (fun j => j = i ∨ listed.getD j false = true) = fun j => (listed.setIfInBounds i true).getD j false = true := by
      funext j
      by_cases e : j = i
      · subst e; simp [hls]
      · rw [getD_set_ne false (Ne.symm e)]; simp [e]
    rw [hDeq] at hnext
    have hcnt : (listed.setIfInBounds i true).count false ≤ fuel := by
      have h1 : listed[i] = false := by simpa [hls] using h0
      have h2 : 0 < listed.count false := Array.count_pos_iff.2 (Array.mem_iff_getElem.2 ⟨i, hls, h1⟩)
      rw [Array.setIfInBounds, dif_pos hls, Array.count_set]
      simp [h1]
      omega
    have hdst : ∀ x, o.dst = some x → x < N := fun x hx => by
      have := List.all_eq_true.1 hlt o (List.mem_of_getElem? hi')
      rw [hx] at this; simpa using this
    obtain ⟨⟨hq, _, _, hs⟩, _⟩ := ht.step i o hi'
    have hag : ∀ t, t ∈ o.looksAt l.toArray → fr t = F i t := fun t => hD.looks ht hok hi' hn0 hp
    have hgd : agd l.toArray fr o = agd l.toArray (F i) o := by
      unfold agd
      cases hgd : o.guard with
      | none => rfl
      | some jw =>
        obtain ⟨j, want⟩ := jw
        simp only
        cases hdj : (l.toArray[j]?).bind (·.dst) with
        | none => rfl
        | some d => simp only [hag d (by simp only [Oper.looksAt, hgd, List.mem_append]; right; rw [hdj]; simp)]
    unfold wpOp
    rw [ho]
    simp only
    rcases hs with ⟨hg, hs⟩ | ⟨hg, hr, hM⟩
    · have hw := wanted_agd hf (hgd.trans hg)
      rw [if_pos hw]
      refine .inl (wp_of_Ls (K := SR H.length g w fun r1 H1 => r1 = R i ∧ H1 = if 2 ≤ cls.getD i 0 then M (i + 1) else H) ?_ ?_)
      · have hop : ∀ t, Operand.tmp t ∈ o.op.operands → fr t = F i t := fun t hx => hag t (by
          simp only [Oper.looksAt, List.mem_append]; left
          exact List.mem_filterMap.2 ⟨.tmp t, Array.mem_toList_iff.2 hx, rfl⟩)
        have hO : OpS P o fr H fun r1 H1 => r1 = R i ∧ H1 = if 2 ≤ cls.getD i 0 then M (i + 1) else H := by
          rcases hs with ⟨hc0, hs⟩ | ⟨hc0, hs⟩ | ⟨hc0, hs⟩
          · rw [if_neg (by omega)]
            exact (hs H (by
              obtain ⟨m, hm, hmem, e⟩ := hD.mem
              rw [e]
              refine ht.inv hJ hm fun q => ?_
              obtain ⟨t1, t2⟩ := hT q
              apply Classical.byContradiction
              intro hml
              have hL : l.length - 1 < l.length := by omega
              have hDL := (hmem (l.length - 1) hL t2).2 (by omega)
              by_cases ei : i = l.length - 1
              · rw [← ei] at hDL; exact hn0 hDL
              · obtain ⟨oL, hoL⟩ := get_of_lt hL
                exact hn0 (Done.clo hok hD.down (l.length - 1 + 1) (l.length - 1) oL (by omega) hoL (hD.down (l.length - 1) oL hoL hDL) i (t1 i (by omega))))).congr hop
          · rw [if_neg (by omega)]
            exact (hs H (hD.look ht hB0 hok hi' hn0 hp hc0)).congr hop
          · have hH := hD.here ht hok hi' hn0 hp hc0
            rw [if_pos hc0, hH]
            exact hs.congr hop
        exact hO g w a.eval (fun x _ => VR_aev hf x) hm
      · rintro v w' ⟨r, H', g', ⟨rfl, hH'⟩, hv, hm', he', hn'⟩
        refine ih _ _ _ g' w' _ (by simpa using hsz) hcnt hnext ?_ ?_ (hH' ▸ hm') (he.trans he' hn) (hH' ▸ Nat.le_trans hn hn')
        · cases o.dst <;> exact hd
        · exact hH' ▸ FR.put (FR.mono he'.gle hn' hf) hdst hv
    · have hw := wanted_agd hf (hgd.trans hg)
      rw [if_neg (by rw [hw]; simp)]
      have hH' : (if 2 ≤ cls.getD i 0 then M (i + 1) else H) = H := by
        split
        · rename_i h2; rw [hM, hD.here ht hok hi' hn0 hp h2]
        · rfl
      rw [hH', hr] at hnext
      refine ih _ _ _ g w _ (by simpa using hsz) hcnt hnext ?_ ?_ hm he hn
      · cases o.dst <;> exact hd
      · exact FR.put hf hdst (.sc undef)
theorem MR.drawn {g : Gh} {H : Mem} {w : World} (h : MR g H w) : MR g H { w with drawn := w.drawn + 1 } := h.of_heap rfl
theorem aw_drawG {P : Program} {N n0 : Nat} {fr : Frm} {H : Mem} {Q : Exit → Frm → Mem → Prop} {id : Nat} {l : List Oper} (hm : P.follows .mixedOrders = true) (cls : List Nat) (hlt : dstsLt l N = true) (hok : okD l cls = true) (J : Mem → Prop) (hJ : J H) (T : Bool) (hT : T = true → (∀ i, i + 1 < l.length → ((cloL l []).getD (l.length - 1) 0).testBit i = true) ∧ 2 ≤ cls.getD (l.length - 1) 0)
    (h : DRun P J T l.toArray cls l fr H H fun fr H => Q .normal fr H) : aw P N n0 (.region id l.toArray true) fr H Q := fun g w a hl hd hf hmr => by
  obtain ⟨F, R, M, Bs, ht, h1, h2, h4, h3⟩ := Trace.of_run h
  refine wp_region_any hm ?_
  refine draw_sound (n0 := n0) (g0 := g) (w0 := w) ht (h4.trans h2.symm) (by rw [h2]; exact hJ) (okD_spec hok) hT hlt (fun g' w' a' d f m e n => ⟨d, _, _, g', h3, f, m, e, n⟩) _ _ fr H g _ a (by simp) (by simp) ?_ hd hf hmr.drawn
    ⟨.refl _ _, fun _ _ h => ⟨h, rfl⟩, Nat.le_refl _, rfl, rfl, rfl⟩ hl
  refine ⟨fun i o _ hD => ?_, fun i o t _ hD => ?_, fun t _ => by rw [h1], 0, Nat.zero_le _, fun j hj _ => ⟨fun hD => ?_, fun h => absurd h (Nat.not_lt_zero _)⟩, h2.symm⟩
  · simp [Array.getElem?_replicate] at hD
    split at hD <;> simp at hD
  · simp [Array.getElem?_replicate] at hD
    split at hD <;> simp at hD
  · simp [Array.getElem?_replicate] at hD
    split at hD <;> simp at hD
theorem aw_drawJ {P : Program} {N n0 : Nat} {fr : Frm} {H : Mem} {Q : Exit → Frm → Mem → Prop} {id : Nat} {l : List Oper} (hm : P.follows .mixedOrders = true) (cls : List Nat) (hlt : dstsLt l N = true) (hok : okD l cls = true) (J : Mem → Prop) (hJ : J H)
    (h : DRun P J false l.toArray cls l fr H H fun fr H => Q .normal fr H) : aw P N n0 (.region id l.toArray true) fr H Q := aw_drawG hm cls hlt hok J hJ false (fun h => by cases h) h
theorem aw_draw {P : Program} {N n0 : Nat} {fr : Frm} {H : Mem} {Q : Exit → Frm → Mem → Prop} {id : Nat} {l : List Oper} (hm : P.follows .mixedOrders = true) (cls : List Nat) (hlt : dstsLt l N = true) (hok : okD l cls = true)
    (h : DRun P (fun _ => True) false l.toArray cls l fr H H fun fr H => Q .normal fr H) : aw P N n0 (.region id l.toArray true) fr H Q := aw_drawJ hm cls hlt hok _ trivial h
end Go.Proofs.YtaaamoicidfgcaaGreat.Am
namespace Go.Proofs.YtaaamoicidfgcaaGreat.Am
open Go
inductive Rn (τ : Nat → Nat) (m : Nat) : AV → AV → Prop
 | any (a : AV) : Rn τ m a .any
 | sc (v : Value) : Rn τ m (.sc v) (.sc v)
 | nil (z : Nat) (k : Tk) (hk : ∀ t, k = .tk t → t < m) : Rn τ m (.sc (.slice none 0 0)) (.sl z [] k)
 | no (z : Nat) (es : List (List PV)) (k : Tk) : Rn τ m (.sl z es k) (.sl z es .no)
 | ex (z : Nat) (es : List (List PV)) : Rn τ m (.sl z es .ex) (.sl z es .ex)
 | tk (z : Nat) (es : List (List PV)) (t : Nat) (h : t < m) : Rn τ m (.sl z es (.tk (τ t))) (.sl z es (.tk t))
 | ag (cs cs' : List AV) (hl : cs'.length = cs.length) (h : ∀ (i : Nat) c c', cs[i]? = some c → cs'[i]? = some c' → Rn τ m c c') : Rn τ m (.ag cs) (.ag cs')
 | tp (cs cs' : List AV) (hl : cs'.length = cs.length) (h : ∀ (i : Nat) c c', cs[i]? = some c → cs'[i]? = some c' → Rn τ m c c') : Rn τ m (.tp cs) (.tp cs')
 | pt (id off : Nat) (h : id < m) : Rn τ m (.pt (τ id) off) (.pt id off)
 | ep (cs : List PV) : Rn τ m (.ep cs) (.ep cs)
 | hs (id off len mc s : Nat) (h : id < m) : Rn τ m (.hs (τ id) off len mc s) (.hs id off len mc s)
 | mp (id : Nat) (h : id < m) : Rn τ m (.mp (τ id)) (.mp id)
 | fn (f : Fn) (fs fs' cs cs' : List AV) (hl : fs'.length = fs.length) (hl' : cs'.length = cs.length) (h : ∀ (i : Nat) c c', fs[i]? = some c → fs'[i]? = some c' → Rn τ m c c')
   (h' : ∀ (i : Nat) c c', cs[i]? = some c → cs'[i]? = some c' → Rn τ m c c') : Rn τ m (.fn f fs cs) (.fn f fs' cs')
theorem Rn.vr {τ : Nat → Nat} {m : Nat} {g g' : Gh} (hro : g'.ro = g.ro) (hmu : ∀ i, i < m → g'.mu i = g.mu (τ i)) {a a' : AV} (hr : Rn τ m a a') : ∀ {n : Nat} {v : Value}, VR g n a v → VR g' m a' v := by
 have list : ∀ {cs cs' : List AV} {n : Nat} {vs : Array Value}, cs'.length = cs.length → (∀ (i : Nat) c c', cs[i]? = some c → cs'[i]? = some c' → ∀ {n : Nat} {v : Value}, VR g n c v → VR g' m c' v) →
   (∀ (i : Nat) c, cs[i]? = some c → VR g n c (vs.getD i undef)) → ∀ (i : Nat) c, cs'[i]? = some c → VR g' m c (vs.getD i undef) := fun {cs cs'} _ _ hl ih h i c hc => by
  have hlt := lt_of_get hc
  exact ih i _ c (List.getElem?_eq_getElem (by omega)) hc (h i _ (List.getElem?_eq_getElem (by omega)))
 induction hr with
 | any a => exact fun _ => .any _
 | sc v =>
  intro n v h
  cases h; exact .sc _
 | nil z k hk =>
  intro n v h
  cases h; exact .nil z k hk
 | no z es k =>
  intro n v h
  cases h with
  | nil z => exact .nil z .no fun t e => by cases e
  | sl z es k a cap f h1 h2 h3 h4 h5 => exact .sl z es .no a cap f h1 h2 h3 (hro ▸ h4) trivial
 | ex z es =>
  intro n v h
  cases h with
  | nil z => exact .nil z .ex fun t e => by cases e
  | sl z es k a cap f h1 h2 h3 h4 h5 => exact .sl z es .ex a cap f h1 h2 h3 (hro ▸ h4) h5
 | tk z es t ht =>
  intro n v h
  cases h with
  | nil z => exact .nil z _ fun t e => by cases e; exact ht
  | sl z es k a cap f h1 h2 h3 h4 h5 => exact .sl z es _ a cap f h1 h2 h3 (hro ▸ h4) ⟨ht, h5.2.imp id fun e => (hmu t ht).trans e⟩
 | ag cs cs' hl _ ih =>
  intro n v h
  cases h with
  | ag _ vs hs hv => exact .ag cs' vs (hs.trans hl.symm) (list hl ih hv)
 | tp cs cs' hl _ ih =>
  intro n v h
  cases h with
  | tp _ vs hs hv => exact .tp cs' vs (hs.trans hl.symm) (list hl ih hv)
 | pt id off hid =>
  intro n v h
  cases h; rw [← hmu id hid]; exact .pt id off hid
 | ep cs =>
  intro n v h
  cases h with
  | ep cs a f h1 h2 => exact .ep cs a f h1 (hro ▸ h2)
 | hs id off len mc s hid =>
  intro n v h
  cases h with
  | hs _ _ _ _ _ cap h1 h2 h3 h4 => rw [← hmu id hid] at h4 ⊢; exact .hs id off len mc s cap hid h2 h3 h4
  | hn _ _ _ a h1 => exact .hn id off s a hid
 | mp id hid =>
  intro n v h
  cases h; rw [← hmu id hid]; exact .mp id hid
 | fn f fs fs' cs cs' hl hl' _ _ ih ih' =>
  intro n v h
  cases h with
  | fn _ _ _ vf vc h1 h2 h3 h4 => exact .fn f fs' cs' vf vc (h1.trans hl.symm) (h2.trans hl'.symm) (list hl ih h3) (list hl' ih' h4)
theorem Rn.of_bd {τ : Nat → Nat} {n m : Nat} (hτ : ∀ i, i < n → τ i = i) (hnm : n ≤ m) {a : AV} (h : Bd n a) : Rn τ m a a := by
 have list : ∀ {cs : List AV}, (∀ (i : Nat) c, cs[i]? = some c → Rn τ m c c) → ∀ (i : Nat) c c', cs[i]? = some c → cs[i]? = some c' → Rn τ m c c' := fun ih i c c' h h' => by rw [h] at h'; cases h'; exact ih i c h
 induction h with
 | any => exact .any _
 | sc v => exact .sc v
 | sl z es k hk =>
  cases k with
  | no => exact .no z es _
  | ex => exact .ex z es
  | tk t => have := hk t rfl; have h2 := Rn.tk (τ := τ) (m := m) z es t (by omega); rw [hτ t this] at h2; exact h2
 | ag cs _ ih => exact .ag cs cs rfl (list ih)
 | tp cs _ ih => exact .tp cs cs rfl (list ih)
 | pt id off h => have h2 := Rn.pt (τ := τ) (m := m) id off (by omega); rw [hτ id h] at h2; exact h2
 | ep cs => exact .ep cs
 | hs id off len mc s h => have h2 := Rn.hs (τ := τ) (m := m) id off len mc s (by omega); rw [hτ id h] at h2; exact h2
 | mp id h => have h2 := Rn.mp (τ := τ) (m := m) id (by omega); rw [hτ id h] at h2; exact h2
 | fn f fs cs _ _ i1 i2 => exact .fn f fs fs cs cs rfl rfl (list i1) (list i2)
inductive RnE (τ : Nat → Nat) (m : Nat) : Ent → Ent → Prop
 | dead (e : Ent) : RnE τ m e .dead
 | tok : RnE τ m .tok .tok
 | cells (cs cs' : List AV) (hl : cs'.length = cs.length) (h : ∀ (i : Nat) c c', cs[i]? = some c → cs'[i]? = some c' → Rn τ m c c') : RnE τ m (.cells cs) (.cells cs')
 | map (es : List (Value × AV)) (h : ∀ k a, (k, a) ∈ es → Rn τ m a a) : RnE τ m (.map es) (.map es)
 | mpi (es : List (Value × AV)) (ents : Array MapEntry) (clock : Nat) (h : ∀ k a, (k, a) ∈ es → Rn τ m a a) : RnE τ m (.mpi es ents clock) (.mpi es ents clock)
 | itr (mid since : Nat) (seen : Array Nat) (stepped : Nat) (h : mid < m) (ht : τ mid = mid) : RnE τ m (.itr mid since seen stepped) (.itr mid since seen stepped)
 | lit (vs : List Value) : RnE τ m (.lit vs) (.lit vs)
 | tr (cs : List Tr) (h : ∀ (i : Nat) c, cs[i]? = some c → c.All fun a => Rn τ m a a) : RnE τ m (.tr cs) (.tr cs)
theorem MapR.ren {τ : Nat → Nat} {m n : Nat} {g g' : Gh} (hro : g'.ro = g.ro) (hmu : ∀ i, i < m → g'.mu i = g.mu (τ i)) {es : List (Value × AV)} {ents : Array MapEntry} {clock : Nat} (hm : MapR g n es ents clock) (h : ∀ k a, (k, a) ∈ es → Rn τ m a a) : MapR g' m es ents clock :=
 ⟨hm.st, hm.size, hm.keys, fun k a hi => let ⟨x, x1, x2, x3⟩ := hm.get k a hi; ⟨x, x1, x2, (h k a hi).vr hro hmu x3⟩, hm.all⟩
theorem TrR.ren {τ : Nat → Nat} {m n : Nat} {g g' : Gh} {w : World} {ow : Nat → Option (List Nat)} (hro : g'.ro = g.ro) (hmu : ∀ i, i < m → g'.mu i = g.mu (τ i)) {p : List Nat} {t : Tr} {v : Value} (h : TrR g n w ow p t v) :
  (t.All fun a => Rn τ m a a) → TrR g' m w ow p t v := by
 induction h with
 | av p a v h => intro h2; cases h2 with | av _ h2 => exact .av p a v (h2.vr hro hmu h)
 | hs p z len cs b o l cap f ho hb hc hlen hl hr0 hv _ ih => intro h2; cases h2 with | hs _ _ _ h2 => exact .hs p z len cs b o l cap f ho hb hc hlen hl (fun o' => by rw [hro]; exact hr0 o') hv fun k c hk => ih k c hk (h2 k c hk)
 | hn p z a => exact fun _ => .hn p z a
 | sr p z es a len cap hlen h hk => exact fun _ => .sr p z es a len cap hlen ((Rn.no z es .no).vr hro hmu h) (hk.imp id fun ⟨h1, h2, h3⟩ => ⟨h1, h2, fun o v hv => h3 o v (by rw [← hro]; exact hv)⟩)
 | srn p z => exact fun _ => .srn p z
 | pt p cs b o l f ho hb hl hr0 hv _ ih => intro h2; cases h2 with | pt _ h2 => exact .pt p cs b o l f ho hb hl (fun o' => by rw [hro]; exact hr0 o') hv fun k c hk => ih k c hk (h2 k c hk)
 | mp p es b ents clock ho hr0 hb hm =>
  intro h2
  cases h2 with
  | mp _ h2 => exact .mp p es b ents clock ho (fun o => by rw [hro]; exact hr0 o) hb (hm.ren hro hmu h2)
theorem RnE.of_bd {τ : Nat → Nat} {n m : Nat} (hτ : ∀ i, i < n → τ i = i) (hnm : n ≤ m) {e : Ent} (h : e.Bd n) : RnE τ m e e := by
 cases e with
 | dead => exact .dead _
 | tok => exact .tok
 | cells cs => exact .cells cs cs rfl fun i c c' h1 h2 => by rw [h1] at h2; cases h2; exact .of_bd hτ hnm (h i c h1)
 | map es => exact .map es fun k a hi => .of_bd hτ hnm (h k a hi)
 | mpi es ents clock => exact .mpi es ents clock fun k a hi => .of_bd hτ hnm (h k a hi)
 | itr mid since seen stepped => exact .itr mid since seen stepped (Nat.lt_of_lt_of_le h hnm) (hτ mid h)
 | lit vs => exact .lit vs
 | tr cs => exact .tr cs fun i c hc => (h i c hc).mono fun _ ha => .of_bd hτ hnm ha
def Live (H : Mem) (i : Nat) : Prop := ∃ e, H[i]? = some e ∧ e ≠ .dead
theorem Reb.gcl {N n0 : Nat} {fr fr1 : Frm} {H H2 : Mem} (τ : Nat → Nat) (hn : n0 ≤ H2.length) (h0 : ∀ i, i < n0 → τ i = i) (hinj : ∀ i j, Live H2 i → Live H2 j → τ i = τ j → i = j)
  (hent : ∀ (i : Nat) e', H2[i]? = some e' → e' = .dead ∨ ∃ e, H[τ i]? = some e ∧ RnE τ H2.length e e') (hfr : ∀ t, Rn τ H2.length (fr t) (fr1 t)) : Reb N n0 fr fr1 H H2 := by
 intro g w tmps hl hf hm
 classical
 let ow' : Nat → Option Nat := fun b => match g.ow b with | none => none | some id => if hx : ∃ i, Live H2 i ∧ τ i = id then some (Classical.choose hx) else none
 have how : ∀ b i, Live H2 i → g.ow b = some (τ i) → ow' b = some i := fun b i hi hb => by
  have hx : ∃ j, Live H2 j ∧ τ j = τ i := ⟨i, hi, rfl⟩
  simp only [ow', hb]
  rw [dif_pos hx]
  have := Classical.choose_spec hx
  rw [hinj _ _ this.1 hi this.2]
 have hmu : ∀ i, i < H2.length → (fun i => g.mu (τ i)) i = g.mu (τ i) := fun _ _ => rfl
 refine ⟨⟨g.ro, ow', fun i => g.mu (τ i)⟩, ⟨hf.size, fun t => (hfr t).vr (g := g) (g' := ⟨g.ro, ow', fun i => g.mu (τ i)⟩) rfl hmu (hf.vr t)⟩, ⟨hm.ro, fun i e' he' => ?_, fun b i hb => ?_⟩, ⟨⟨fun _ _ _ h => h, fun i hi => by simp only; rw [h0 i hi]⟩, fun b _ ho => ⟨by simp only [ow', ho], rfl⟩, Nat.le_refl _, rfl, rfl, rfl⟩, hn⟩
 ·have hi := lt_of_get he'
  rcases hent i e' he' with rfl | ⟨e, he, hr⟩
  ·trivial
  have hE := hm.ent _ _ he
  cases hr with
  | dead => trivial
  | tok =>
   rcases hE with hE | ⟨h1, h2, h3⟩
   ·exact .inl hE
   ·exact .inr ⟨how _ i ⟨_, he', by simp⟩ h1, h2, h3⟩
  | cells cs cs' hcl h =>
   rcases hE with ⟨e1, e2⟩ | ⟨h1, h2, h3, h4, h5⟩
   ·exact .inl ⟨List.eq_nil_of_length_eq_zero (by rw [hcl, e1]; rfl), e2⟩
   refine .inr ⟨how _ i ⟨_, he', by simp⟩ h1, h2, by rw [hcl]; exact h3, h4, fun k c' hc' => ?_⟩
   have hlt := lt_of_get hc'
   obtain ⟨v, hv, hvr⟩ := h5 k _ (List.getElem?_eq_getElem (show k < cs.length by omega))
   exact ⟨v, hv, (h k _ c' (List.getElem?_eq_getElem (by omega)) hc').vr (g := g) (g' := ⟨g.ro, ow', fun i => g.mu (τ i)⟩) rfl hmu hvr⟩
  | map es h =>
   obtain ⟨h1, h2, ents, clock, h3, h4⟩ := hE
   exact ⟨how _ i ⟨_, he', by simp⟩ h1, h2, ents, clock, h3, h4.ren (g := g) (g' := ⟨g.ro, ow', fun i => g.mu (τ i)⟩) rfl hmu h⟩
  | mpi es ents clock h =>
   obtain ⟨h1, h2, h3, h4⟩ := hE
   exact ⟨how _ i ⟨_, he', by simp⟩ h1, h2, h3, h4.ren (g := g) (g' := ⟨g.ro, ow', fun i => g.mu (τ i)⟩) rfl hmu h⟩
  | itr mid since seen stepped h ht =>
   obtain ⟨h0, h1, h2, h3, h4⟩ := hE
   exact ⟨h, how _ i ⟨_, he', by simp⟩ h1, h2, h3, by simp only [ht]; exact h4⟩
  | lit vs =>
   obtain ⟨h1, h2, h3, h4, h5⟩ := hE
   exact ⟨how _ i ⟨_, he', by simp⟩ h1, h2, h3, h4, h5⟩
  | tr cs h =>
   rcases hE with hE | ⟨ow, h0, h1, h2, h3, h4, h5⟩
   ·exact .inl hE
   refine .inr ⟨ow, fun b p hp => how b i ⟨_, he', by simp⟩ (h0 b p hp), h1, h2, h3, h4, fun k c hc => ?_⟩
   obtain ⟨v, hv, hvr⟩ := h5 k c hc
   exact ⟨v, hv, hvr.ren (g := g) (g' := ⟨g.ro, ow', fun i => g.mu (τ i)⟩) rfl hmu (h k c hc)⟩
 ·simp only [ow'] at hb
  split at hb
  ·cases hb
  ·rename_i id hid
   split at hb
   ·rename_i hx
    cases hb
    obtain ⟨⟨e', he', _⟩, _⟩ := Classical.choose_spec hx
    exact ⟨(hm.ow b id hid).1, lt_of_get he'⟩
   ·cases hb
theorem Reb.gc {N n0 : Nat} {fr fr1 : Frm} {H H2 : Mem} (τ : Nat → Nat) (hn : n0 ≤ H2.length) (h0 : ∀ i, i < n0 → τ i = i) (hinj : ∀ i j, i < H2.length → j < H2.length → τ i = τ j → i = j)
  (hent : ∀ (i : Nat) e', H2[i]? = some e' → ∃ e, H[τ i]? = some e ∧ RnE τ H2.length e e') (hfr : ∀ t, Rn τ H2.length (fr t) (fr1 t)) : Reb N n0 fr fr1 H H2 :=
 .gcl τ hn h0 (fun i j ⟨_, h1, _⟩ ⟨_, h2, _⟩ => hinj i j (lt_of_get h1) (lt_of_get h2)) (fun i e' he => .inr (hent i e' he)) hfr
def MBd (H : Mem) : Prop := ∀ (id : Nat) e, H[id]? = some e → e.Bd H.length
def tau (n : Nat) (ρ : List Nat) (i : Nat) : Nat := if i < n then i else ρ.getD (i - n) i
theorem Reb.keep {N n0 : Nat} {fr fr1 : Frm} {H1 tl kept : Mem} (ρ : List Nat) (hn : n0 ≤ H1.length) (hb : MBd H1) (hlen : ρ.length = kept.length) (hnd : ρ.Nodup) (hρ : ∀ r, r ∈ ρ → H1.length ≤ r)
  (hent : ∀ (j : Nat) r e', ρ[j]? = some r → kept[j]? = some e' → ∃ e, (H1 ++ tl)[r]? = some e ∧ RnE (tau H1.length ρ) (H1 ++ kept).length e e') (hfr : ∀ t, Rn (tau H1.length ρ) (H1 ++ kept).length (fr t) (fr1 t)) :
  Reb N n0 fr fr1 (H1 ++ tl) (H1 ++ kept) := by
 have hlo : ∀ i, i < H1.length → tau H1.length ρ i = i := fun i hi => by simp [tau, hi]
 have hhi : ∀ i, H1.length ≤ i → i < (H1 ++ kept).length → ∃ r, ρ[i - H1.length]? = some r ∧ tau H1.length ρ i = r := fun i hi hl => by
  have hj : i - H1.length < ρ.length := by rw [List.length_append] at hl; omega
  exact ⟨ρ[i - H1.length], List.getElem?_eq_getElem hj, by unfold tau; rw [if_neg (by omega), List.getD_eq_getElem?_getD, List.getElem?_eq_getElem hj]; rfl⟩
 refine Reb.gc (tau H1.length ρ) (by simp; omega) (fun i hi => hlo i (by omega)) (fun i j hi hj e => ?_) (fun i e' he' => ?_) hfr
 ·rcases Nat.lt_or_ge i H1.length with h1 | h1
  ·rw [hlo i h1] at e
   rcases Nat.lt_or_ge j H1.length with h2 | h2
   ·rw [hlo j h2] at e; exact e
   ·obtain ⟨r, hr, hr2⟩ := hhi j h2 hj
    have := hρ r (List.mem_of_getElem? hr); omega
  ·obtain ⟨r, hr, hr2⟩ := hhi i h1 hi
   rcases Nat.lt_or_ge j H1.length with h2 | h2
   ·rw [hlo j h2] at e
    have := hρ r (List.mem_of_getElem? hr); omega
   ·obtain ⟨r', hr', hr2'⟩ := hhi j h2 hj
    rw [hr2, hr2'] at e
    subst e
    have hlt := lt_of_get hr
    have hlt' := lt_of_get hr'
    rw [List.getElem?_eq_getElem hlt] at hr
    rw [List.getElem?_eq_getElem hlt'] at hr'
    cases hr
    have e2 := Option.some.inj hr'
    rcases Nat.lt_trichotomy (i - H1.length) (j - H1.length) with h3 | h3 | h3
    ·exact absurd e2.symm (List.pairwise_iff_getElem.1 hnd _ _ hlt hlt' h3)
    ·omega
    ·exact absurd e2 (List.pairwise_iff_getElem.1 hnd _ _ hlt' hlt h3)
 ·rcases Nat.lt_or_ge i H1.length with h1 | h1
  ·rw [List.getElem?_append_left h1] at he'
   exact ⟨e', by rw [hlo i h1, List.getElem?_append_left h1]; exact he', .of_bd hlo (by simp) (hb i e' he')⟩
  ·have hl := lt_of_get he'
   obtain ⟨r, hr, hr2⟩ := hhi i h1 hl
   rw [List.getElem?_append_right h1] at he'
   rw [hr2]
   exact hent _ r e' hr he'
def Frm.of : List (Nat × AV) → Frm
 | [], _ => .any
 | (d, v) :: r, t => if t = d then v else Frm.of r t
def FLe (fr F : Frm) : Prop := ∀ t, F t = fr t ∨ F t = .any
theorem FLe.of {fr : Frm} : ∀ {l : List (Nat × AV)}, (∀ p ∈ l, fr p.1 = p.2) → FLe fr (Frm.of l)
 | [], _, _ => .inr rfl
 | (d, v) :: r, h, t => by
  by_cases e : t = d
  ·subst e
   exact .inl (by simp only [Frm.of, if_true]; exact (h _ (List.mem_cons_self ..)).symm)
  ·simp only [Frm.of, if_neg e]
   exact FLe.of (fun p hp => h p (List.mem_cons_of_mem _ hp)) t
theorem FLe.refl (fr : Frm) : FLe fr fr := fun _ => .inl rfl
section
variable {P : Program} {N n0 : Nat} {c : Code} {fr : Frm} {H : Mem} {Q : Exit → Frm → Mem → Prop}
theorem Reb.le {F : Frm} (hF : FLe fr F) : Reb N n0 fr F H H := fun g _ _ hl hf hm => ⟨g, hf.weaken hF, hm, .refl _ _ _, hl⟩
def FrL (fr : Frm) : List (Nat × AV) → Prop
 | [] => True
 | (d, v) :: r => fr d = v ∧ FrL fr r
theorem FrL.all {fr : Frm} : ∀ {l : List (Nat × AV)}, FrL fr l → ∀ p ∈ l, fr p.1 = p.2
 | [], _, _, h => by cases h
 | (d, v) :: r, h, p, hp => by
  rcases List.mem_cons.1 hp with rfl | hp
  ·exact h.1
  ·exact FrL.all h.2 p hp
theorem Reb.of {l : List (Nat × AV)} (h : FrL fr l) : Reb N n0 fr (Frm.of l) H H := .le (.of h.all)
theorem Rn.of {τ : Nat → Nat} {m : Nat} : ∀ {l : List (Nat × AV)}, (∀ p ∈ l, Rn τ m (fr p.1) p.2) → ∀ t, Rn τ m (fr t) (Frm.of l t)
 | [], _, _ => .any _
 | (d, v) :: r, h, t => by
  by_cases e : t = d
  ·subst e
   have := h _ (List.mem_cons_self ..)
   simp only [Frm.of, if_true]; exact this
  ·simp only [Frm.of, if_neg e]
   exact Rn.of (fun p hp => h p (List.mem_cons_of_mem _ hp)) t
def RnL (τ : Nat → Nat) (m : Nat) (fr : Frm) : List (Nat × AV) → Prop
 | [] => True
 | (d, v) :: r => Rn τ m (fr d) v ∧ RnL τ m fr r
theorem RnL.all {τ : Nat → Nat} {m : Nat} : ∀ {l : List (Nat × AV)}, RnL τ m fr l → ∀ p ∈ l, Rn τ m (fr p.1) p.2
 | [], _, _, h => by cases h
 | (d, v) :: r, h, p, hp => by
  rcases List.mem_cons.1 hp with rfl | hp
  ·exact h.1
  ·exact RnL.all h.2 p hp
theorem Reb.drop {H1 tl : Mem} {l : List (Nat × AV)} (hn : n0 ≤ H1.length) (hb : MBd H1) (h : RnL (tau H1.length []) H1.length fr l) : Reb N n0 fr (Frm.of l) (H1 ++ tl) H1 := by
 have := Reb.keep (N := N) (n0 := n0) (fr := fr) (fr1 := Frm.of l) (H1 := H1) (tl := tl) (kept := []) [] hn hb rfl .nil (fun r h => by cases h) (fun j r e' h => by simp at h) (by simpa using Rn.of h.all)
 simpa using this
theorem getElem?_tok {H1 tl : Mem} {t : Nat} : (H1 ++ tl)[H1.length + t]? = tl[t]? := by rw [List.getElem?_append_right (by omega)]; simp
theorem Reb.tok {H1 tl : Mem} {t : Nat} {l : List (Nat × AV)} (hn : n0 ≤ H1.length) (hb : MBd H1) (ht : tl[t]? = some .tok) (h : RnL (tau H1.length [H1.length + t]) (H1.length + 1) fr l) :
  Reb N n0 fr (Frm.of l) (H1 ++ tl) (H1 ++ [.tok]) := by
 refine Reb.keep [H1.length + t] hn hb rfl (by simp) (fun r h => by simp at h; omega) (fun j r e' h h' => ?_) (by simpa using Rn.of h.all)
 cases j with
 | zero => simp at h h'; subst h h'; exact ⟨.tok, by rw [getElem?_tok]; exact ht, .tok⟩
 | succ j => simp at h
theorem tau_hi {n : Nat} {r : Nat} {ρ : List Nat} : tau n (r :: ρ) n = r := by simp [tau]
theorem Rn.tok {n r z : Nat} {es : List (List PV)} : Rn (tau n [r]) (n + 1) (.sl z es (.tk r)) (.sl z es (.tk n)) := by
 have := Rn.tk (τ := tau n [r]) (m := n + 1) z es n (by omega)
 rw [tau_hi] at this; exact this
theorem Reb.nil {l : List (Nat × AV)} (h : ∀ p ∈ l, fr p.1 = p.2 ∨ (fr p.1 = .sc (.slice none 0 0) ∧ ∃ z, p.2 = .sl z [] (.tk H.length)) ∨ (fr p.1 = .sc (.slice none 0 0) ∧ ∃ z, p.2 = .sl z [] .no)) : Reb N n0 fr (Frm.of l) H (H ++ [.tok]) := fun g w tmps hl hf hm => by
 obtain ⟨m1, m2⟩ := hm.push_void
 refine ⟨_, ⟨hf.size, ?_⟩, m1, ⟨⟨m2.gle.ro, fun i hi => m2.gle.mu i (by omega)⟩, m2.un, m2.size, m2.os, m2.tape, m2.output⟩, by simp; omega⟩
 intro t
 have hfr := (hf.mono m2.gle (by simp : H.length ≤ (H ++ [Ent.tok]).length)).vr t
 generalize tmps.getD t undef = u at hfr
 induction l with
 | nil => exact .any _
 | cons p r ih =>
  obtain ⟨d, v⟩ := p
  by_cases e : t = d
  ·subst e
   simp only [Frm.of, if_true]
   rcases h _ (List.mem_cons_self ..) with h1 | ⟨h1, z, h2⟩ | ⟨h1, z, h2⟩
   ·simp only at h1; rw [← h1]; exact hfr
   ·simp only at h1 h2
    rw [h1] at hfr; cases hfr; rw [h2]
    exact .nil z _ fun t e => by cases e; simp
   ·simp only at h1 h2
    rw [h1] at hfr; cases hfr; rw [h2]
    exact .nil z _ fun t e => by cases e
  ·simp only [Frm.of, if_neg e]
   exact ih fun p hp => h p (List.mem_cons_of_mem _ hp)
end
section
variable {P : Program} {ops : Array Oper} {cs : List Nat} {rest : List Oper} {o : Oper} {fr : Frm} {H : Mem} {K : Frm → Mem → Prop}
variable {B : Mem} {J : Mem → Prop} {T : Bool}
theorem DRun_nil (h : K fr H) : DRun P J T ops cs [] fr B H K := h
end
theorem acalls_walk {P : Program} {f : FuncId} {fn : Func} {c : Code} {args : List AV} {H : Mem} {R : AV → Mem → Prop} (hf : P.funcs[f]? = some fn) (hb : fn.body = some c) (hcl : callable P f = true)
  (hN : args.length ≤ fn.ntmps)
  (h : MBd H → aw P fn.ntmps H.length c (afr0 args) H fun e fr H' => match e with | .normal | .ret => ∃ fr1 H1, Reb fn.ntmps H.length fr fr1 H' H1 ∧ resS P fn fr1 H1 R | _ => False) : ACalls P f args H R :=
 ⟨hcl, fun g w vals hm hs hv => (acalls_of_aw hf hb hcl hN (h fun id e he => (hm.ent id e he).bd)).2 g w vals hm hs hv⟩
theorem fin_here {P : Program} {fn : Func} {N n0 : Nat} {fr : Frm} {H' : Mem} {R : AV → Mem → Prop} (h : resS P fn fr H' R) : ∃ fr1 H1, Reb N n0 fr fr1 H' H1 ∧ resS P fn fr1 H1 R := ⟨_, _, .refl, h⟩
end Go.Proofs.YtaaamoicidfgcaaGreat.Am
