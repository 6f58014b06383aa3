/- Part 1 of the proof: values, memory, walks or the plain law. -/
import Derived.Test.YtaaamoicidfgcaaGreatQ0
import Derived.SizedLaws
import Derived.Deep.Slices
import Derived.Below
import Derived.Carry
import Derived.Lib.AppendZeros
import Derived.Maps.RangeRun
import Derived.Maps.Range
import Derived.Laws.StructEq
import Derived.Test.YtaaamoicidfgcaaGreatProg
import Derived.KernelRfl
import Derived.RangeFuncNested
import Derived.RangeFuncBound
import Derived.RangeFuncCalls
import Derived.RangeFuncLeaves
import Derived.Sort.Grow
import Derived.Shelf.Sort.Plain
import Derived.Shelf.Slices.In.SortNone
import Derived.Ground.Names2Prog
import Derived.Shelf.Abstract
import Derived.Shelf.RegionOpen
import Derived.WalkKit
import Derived.OwnWalkIn
import Derived.TacticsInMore
import Derived.LoopNIn
import Derived.LoopIn
import Derived.Maps.AppendAt
namespace Go.Proofs.YtaaamoicidfgcaaGreat.Am
open Go
section
variable {P : Program} {ops : Array Oper} {cs : List Nat} {rest : List Oper} {o : Oper} {fr : Frm} {H : Mem} {K : Frm → Mem → Prop} {hint : Hints}
end
theorem wrap64 {n : Int} (h0 : -9223372036854775808 ≤ n) (h1 : n ≤ 9223372036854775807) : IntKind.i64.wrap n = n := by
 have e1 : (2 : Int) ^ IntKind.i64.bits = 18446744073709551616 := by decide
 have e2 : (2 : Int) ^ (IntKind.i64.bits - 1) = 9223372036854775808 := by decide
 unfold IntKind.wrap
 simp only [e1, e2, IntKind.signed, Bool.true_and]
 by_cases h : n % 18446744073709551616 ≥ 9223372036854775808
 ·rw [if_pos (decide_eq_true h)]; omega
 ·rw [if_neg (by simpa using h)]; omega
theorem wrapU {k : IntKind} (hk : k.signed = false) {n : Int} (h0 : 0 ≤ n) (h1 : n < 2 ^ k.bits) : k.wrap n = n := by
 unfold IntKind.wrap
 simp only [hk]
 exact Int.emod_eq_of_lt h0 h1
def AVLe (a a' : AV) : Prop := ∀ g n v, VR g n a v → VR g n a' v
theorem AVLe.refl (a : AV) : AVLe a a := fun _ _ _ h => h
theorem AVLe.nil (z : Nat) : AVLe (.sc (.slice none 0 0)) (.sl z [] .no) := fun _ _ _ h => by cases h; exact .nil z .no fun t e => by cases e
theorem AVLe.no (z : Nat) (es : List (List PV)) (k : Tk) : AVLe (.sl z es k) (.sl z es .no) := fun _ _ _ h => h.no_tok
def PLe (p p' : PV) : Prop := ∀ ro v, PR ro p v → PR ro p' v
theorem PLe.refl (p : PV) : PLe p p := fun _ _ h => h
theorem PLe.nil (z : Nat) : PLe (.sc (.slice none 0 0)) (.sl z []) := fun _ _ h => by cases h; exact .nil z
def PsLe : List PV → List PV → Prop
 | [], [] => True
 | p :: r, p' :: r' => PLe p p' ∧ PsLe r r'
 | _, _ => False
theorem PsLe.refl : ∀ l, PsLe l l
 | [] => trivial
 | p :: r => ⟨.refl p, PsLe.refl r⟩
theorem PsLe.get : ∀ {l l' : List PV}, PsLe l l' → l'.length = l.length ∧ ∀ (i : Nat) p', l'[i]? = some p' → ∃ p, l[i]? = some p ∧ PLe p p'
 | [], [], _ => ⟨rfl, fun i c h => by simp at h⟩
 | a :: r, a' :: r', h => by
  obtain ⟨h1, h2⟩ := PsLe.get h.2
  refine ⟨by simp [h1], fun i c hc => ?_⟩
  cases i with
  | zero => simp at hc; subst hc; exact ⟨a, rfl, h.1⟩
  | succ i => simp only [List.getElem?_cons_succ] at hc ⊢; exact h2 i c hc
 | [], _ :: _, h => h.elim
 | _ :: _, [], h => h.elim
theorem PsLe.append : ∀ {a a' b b' : List PV}, PsLe a a' → PsLe b b' → PsLe (a ++ b) (a' ++ b')
 | [], [], _, _, _, h => h
 | _ :: _, _ :: _, _, _, h, h' => ⟨h.1, PsLe.append h.2 h'⟩
 | [], _ :: _, _, _, h, _ => h.elim
 | _ :: _, [], _, _, h, _ => h.elim
def ELe : List (List PV) → List (List PV) → Prop
 | [], [] => True
 | p :: r, p' :: r' => PsLe p p' ∧ ELe r r'
 | _, _ => False
theorem ELe.spec : ∀ {l l' : List (List PV)}, ELe l l' → l'.length = l.length ∧ (∀ z, (∀ e, e ∈ l → e.length = z) → ∀ e, e ∈ l' → e.length = z) ∧ PsLe l.flatten l'.flatten
 | [], [], _ => ⟨rfl, (fun _ _ _ h => nomatch h), trivial⟩
 | a :: r, a' :: r', h => by
  obtain ⟨h1, h2, h3⟩ := ELe.spec h.2
  refine ⟨by simp [h1], fun z hz e he => ?_, PsLe.append h.1 h3⟩
  rcases List.mem_cons.1 he with rfl | he
  ·rw [h.1.get.1]; exact hz _ (List.mem_cons_self ..)
  ·exact h2 z (fun e he => hz e (List.mem_cons_of_mem _ he)) e he
 | [], _ :: _, h => h.elim
 | _ :: _, [], h => h.elim
theorem AVLe.sl {z : Nat} {es es' : List (List PV)} (k : Tk) (h : ELe es es') : AVLe (.sl z es k) (.sl z es' k) := fun g n v hv => by
 obtain ⟨h1, h2, h3⟩ := h.spec
 cases hv with
 | nil z k hk => cases es' with
  | nil => exact .nil z k hk
  | cons a l => cases h1
 | sl z es k a cap f hsp hcap hz hrow hk =>
  rw [← h1] at hcap hk ⊢
  refine .sl z es' k a cap f hsp hcap (h2 z hz) (fun i p' hp => ?_) hk
  obtain ⟨p, q1, q2⟩ := h3.get.2 i p' hp
  exact ⟨(hrow i p q1).1, q2 _ _ (hrow i p q1).2⟩
def ALe : List AV → List AV → Prop
 | [], [] => True
 | a :: r, a' :: r' => AVLe a a' ∧ ALe r r'
 | _, _ => False
theorem ALe.get : ∀ {l l' : List AV}, ALe l l' → l.length = l'.length ∧ ∀ (i : Nat) c', l'[i]? = some c' → ∃ c, l[i]? = some c ∧ AVLe c c'
 | [], [], _ => ⟨rfl, fun i c h => by simp at h⟩
 | a :: r, a' :: r', h => by
  obtain ⟨h1, h2⟩ := ALe.get h.2
  refine ⟨by simp [h1], fun i c hc => ?_⟩
  cases i with
  | zero => simp at hc; subst hc; exact ⟨a, rfl, h.1⟩
  | succ i => simp only [List.getElem?_cons_succ] at hc ⊢; exact h2 i c hc
 | [], _ :: _, h => h.elim
 | _ :: _, [], h => h.elim
theorem ACalls.le {P : Program} {f : FuncId} {args args' : List AV} {H : Mem} {R : AV → Mem → Prop} (h : ALe args args') (hc : ACalls P f args' H R) : ACalls P f args H R :=
 ⟨hc.1, fun g w vals hm hs hv => hc.2 g w vals hm (hs.trans h.get.1) fun i c' hi => by
  obtain ⟨c, h1, h2⟩ := h.get.2 i c' hi
  exact h2 _ _ _ (hv i c h1)⟩
def FzL (fr : Frm) (id : Nat) (n : Nat) (pcs : List PV) : List (Nat × AV) → Prop
 | [] => True
 | (d, v) :: r => (fr d = v ∨ ∃ off len mc s, fr d = .hs id off len mc s ∧ off + len * s ≤ n ∧ v = .sl s (chunk s len ((pcs.drop off).take (len * s))) .no) ∧ FzL fr id n pcs r
theorem Reb.freeze {N n0 : Nat} {fr : Frm} {H : Mem} {id : Nat} {cs : List AV} {pcs : List PV} {l : List (Nat × AV)} (hid : H[id]? = some (.cells cs)) (hp : cs.mapM AV.pv = some pcs) (hl : FzL fr id cs.length pcs l) :
  Reb N n0 fr (Frm.of l) H (H.set id .dead) := fun g w tmps hn hf hm => by
 obtain ⟨hm1, hg1⟩ := hm.freeze hid
 refine ⟨_, ⟨hf.size, ?_⟩, hm1, ⟨⟨hg1.ro, fun i hi => hg1.mu i (by omega)⟩, fun b _ ho => ⟨ho, rfl⟩, Nat.le_refl _, rfl, rfl, rfl⟩, by simpa using hn⟩
 intro t
 have hlen : (H.set id Ent.dead).length = H.length := by simp
 rw [hlen]
 have hv := hf.vr t
 generalize tmps.getD t undef = u at hv
 induction l with
 | nil => exact .any _
 | cons p r ih =>
  obtain ⟨d, v⟩ := p
  obtain ⟨h1, h2⟩ := hl
  by_cases e : t = d
  ·subst e
   simp only [Frm.of, if_true]
   rcases h1 with h1 | ⟨off, len, mc, s, h1, h3, rfl⟩
   ·rw [← h1]; exact hv.mono hg1 (Nat.le_refl _)
   ·rw [h1] at hv
    cases hv with
    | hs _ _ _ _ _ cap hidl hll hmc hcap => exact freeze_row hm hid hp h3 (Nat.le_trans hll hmc)
    | hn _ _ _ a hidl =>
     cases a with
     | none => exact .nil s .no fun t e => by cases e
     | some a => exact VR.sl s [] .no a 0 (fun _ => undef) (.inl rfl) (Nat.le_refl _) (fun e he => by cases he) (fun k p hk => by simp at hk) trivial
  ·simp only [Frm.of, if_neg e]
   exact ih h2
end Go.Proofs.YtaaamoicidfgcaaGreat.Am
namespace Go.Proofs.YtaaamoicidfgcaaGreat.Am
open Go
inductive Ctl (E S : Type) where
 | ret (e : E)
 | go (s : S)
def loopN {S T : Type} (b : S → Option (Ctl T S)) : Nat → S → Option T
 | 0, _ => none
 | n + 1, s => match b s with
  | none => none
  | some (.ret t) => some t
  | some (.go s') => loopN b n s'
def fuel : Nat := 4611686018427387904
def kont {E S : Type} (c : Option (Ctl E S)) (f : S → Option E) : Option E :=
 match c with
 | none => none
 | some (.ret e) => some e
 | some (.go s) => f s
def early {E S : Type} (x : Option E) : Option (Ctl E S) := x.map .ret
def idx {α : Type} (l : List α) (i : Int) : Option α := if 0 ≤ i then l[i.toNat]? else none
def slc {α : Type} (l : List α) (lo hi : Int) : Option (List α) :=
 if 0 ≤ lo ∧ lo ≤ hi ∧ hi ≤ l.length then some ((l.take hi.toNat).drop lo.toNat) else none
def app {α : Type} (b : Nat) (x y : List α) : Option (List α) :=
 if (x.length + y.length) * b ≤ 140737488355328 ∧ x.length + y.length ≤ 9223372036854775807 then some (x ++ y) else none
def mks {α : Type} (b : Nat) (z : α) (n : Int) : Option (List α) := if 0 ≤ n ∧ b * n ≤ 140737488355328 ∧ n ≤ 9223372036854775807 then some (List.replicate n.toNat z) else none
def chkl {α : Type} (n : Nat) (l : List α) : Option Unit := if l.length = n then some () else none
def updL {α : Type} (l : List α) (i : Int) (x : α) : Option (List α) := if 0 ≤ i ∧ i < l.length then some (l.set i.toNat x) else none
def remI (a b : Int) : Option Int := if b = 0 then none else some (a.tmod b)
def maxI (a b : Int) : Int := if b > a then b else a
def minI (a b : Int) : Int := if b < a then b else a
def u8 (n : Int) : UInt8 := UInt8.ofNat n.toNat
def strOf (l : List Int) : List UInt8 := l.map u8
section
variable {α β E S T : Type}
theorem bind_some {o : Option α} {f : α → Option β} {b : β} (h : o.bind f = some b) : ∃ a, o = some a ∧ f a = some b := by
 cases o with
 | none => cases h
 | some a => exact ⟨a, rfl, h⟩
theorem kont_some {c : Option (Ctl E S)} {f : S → Option E} {e : E} (h : kont c f = some e) : ∃ x, c = some x ∧ kont (some x) f = some e := by
 cases c with
 | none => cases h
 | some x => exact ⟨x, rfl, h⟩
theorem kont_go {s : S} {f : S → Option E} {e : E} (h : kont (some (.go s)) f = some e) : f s = some e := h
theorem early_some {x : Option E} {c : Ctl E S} {f : S → Option E} {e : E} (h : early x = some c) (hk : kont (some c) f = some e) : x = some e := by
 cases x with
 | none => cases h
 | some y =>
  simp only [early, Option.map_some, Option.some.injEq] at h
  subst h
  exact hk
theorem early_ret {x : Option T} {c : Ctl T S} {t : T} (h : early x = some c) (ht : ∀ t', c = .ret t' → t' = t) : x = some t := by
 cases x with
 | none => cases h
 | some y =>
  simp only [early, Option.map_some, Option.some.injEq] at h
  subst h
  rw [ht y rfl]
theorem ite_t {b : Bool} {x y z : Option α} (hb : b = true) (h : (if b = true then x else y) = z) : x = z := by rw [if_pos hb] at h; exact h
theorem ite_f {b : Bool} {x y z : Option α} (hb : b = false) (h : (if b = true then x else y) = z) : y = z := by rw [if_neg (by rw [hb]; decide)] at h; exact h
theorem idx_some {l : List α} {i : Int} {a : α} (h : idx l i = some a) : 0 ≤ i ∧ l[i.toNat]? = some a := by
 unfold idx at h
 split at h
 ·exact ⟨by assumption, h⟩
 ·cases h
theorem idx_lt {l : List α} {i : Int} {a : α} (h : idx l i = some a) : 0 ≤ i ∧ i < l.length := by
 obtain ⟨h0, h1⟩ := idx_some h
 have := (List.getElem?_eq_some_iff.1 h1).1
 omega
theorem slc_some {l m : List α} {lo hi : Int} (h : slc l lo hi = some m) : 0 ≤ lo ∧ lo ≤ hi ∧ hi ≤ l.length ∧ m = (l.take hi.toNat).drop lo.toNat := by
 unfold slc at h
 split at h
 ·rename_i hc; cases h; exact ⟨hc.1, hc.2.1, hc.2.2, rfl⟩
 ·cases h
theorem app_some {b : Nat} {x y z : List α} (h : app b x y = some z) : (x.length + y.length) * b ≤ 140737488355328 ∧ x.length + y.length ≤ 9223372036854775807 ∧ z = x ++ y := by
 unfold app at h
 split at h
 ·rename_i hc; cases h; exact ⟨hc.1, hc.2, rfl⟩
 ·cases h
theorem mks_some {b : Nat} {x : α} {n : Int} {z : List α} (h : mks b x n = some z) : 0 ≤ n ∧ b * n ≤ 140737488355328 ∧ n ≤ 9223372036854775807 ∧ z = List.replicate n.toNat x := by
 unfold mks at h
 split at h
 ·rename_i hc; cases h; exact ⟨hc.1, hc.2.1, hc.2.2, rfl⟩
 ·cases h
theorem chkl_some {n : Nat} {l : List α} {u : Unit} (h : chkl n l = some u) : l.length = n := by
 unfold chkl at h
 split at h
 ·assumption
 ·cases h
theorem updL_some {l m : List α} {i : Int} {x : α} (h : updL l i x = some m) : 0 ≤ i ∧ i < l.length ∧ m = l.set i.toNat x := by
 unfold updL at h
 split at h
 ·rename_i hc; cases h; exact ⟨hc.1, hc.2, rfl⟩
 ·cases h
theorem updL_len {l m : List α} {i : Int} {x : α} (h : updL l i x = some m) : m.length = l.length := by rw [(updL_some h).2.2, List.length_set]
theorem remI_some {a b n : Int} (h : remI a b = some n) : b ≠ 0 ∧ n = a.tmod b := by
 unfold remI at h
 split at h
 ·cases h
 ·rename_i hc; cases h; exact ⟨hc, rfl⟩
end
def Ik (k : IntKind) (n : Int) : Prop := k.min ≤ n ∧ n ≤ k.max
theorem Ik.u8 {n : Int} (h : Ik .u8 n) : 0 ≤ n ∧ n < 256 := by
 obtain ⟨h1, h2⟩ := h
 have h1 : 0 ≤ n := h1
 have h2 : n ≤ 255 := h2
 omega
theorem Ik.i64 {n : Int} (h : Ik .i64 n) : -9223372036854775808 ≤ n ∧ n ≤ 9223372036854775807 := h
def c_u8 (n : Int) : List PV := [.sc (.int .u8 n)]
def c_i64 (n : Int) : List PV := [.sc (.int .i64 n)]
def c_L {α : Type} (z : Nat) (c : α → List PV) (l : List α) : List PV := [.sl z (l.map c)]
end Go.Proofs.YtaaamoicidfgcaaGreat.Am
namespace Go.Proofs.YtaaamoicidfgcaaGreat.Am
open Go Go.RowKit Go.Deep
def g0 (W : World) : Gh := ⟨fun b o => W.cell? ⟨b, o, none⟩, fun _ => none, fun _ => ⟨0, 1, 0⟩⟩
theorem MR0 (W : World) : MR (g0 W) [] W := ⟨fun _ _ _ h => h, fun id e h => by simp at h, fun b id h => by cases h⟩
theorem ACalls.below {P : Program} {f : FuncId} {args : List AV} (h : ACalls P f args [] fun r _ => r = .sc (.bool true)) {W : World} {vals : Array Value} (hs : vals.size = args.length)
  (hv : ∀ (i : Nat) c, args[i]? = some c → VR (g0 W) 0 c (vals.getD i undef)) : Calls P f vals W fun e W' => e = .returned (.bool true) ∧ Below W.heap.size W W' :=
 (h.2 (g0 W) W vals (MR0 W) hs hv).mono fun _ _ ⟨v, he, r, H', g', hr, hvr, _, ev, _⟩ => by
  subst hr
  cases hvr
  exact ⟨he, ev.os, ev.tape, ev.output, ev.size, fun k hk => (ev.un k hk rfl).2⟩
def Cd (P : Program) (t : TypeId) (z : Nat) (R : List PV → Prop) : Prop :=
 ∀ {T : Type} (enc : TypeId × Value → T) (W : World) (fuel : Nat) (cs : List Value) (x : DataW T × List MemPlace), DataW.trod enc P W 0 (fun _ => true) true fuel t cs = some x →
  (x.1.weights P t).all (· ≤ reachBytes) = true → cs.length = z ∧ ∃ ps, R ps ∧ ps.length = z ∧ ∀ (k : Nat) p, ps[k]? = some p → ∃ v, cs[k]? = some v ∧ PR (g0 W).ro p v
variable {P : Program}
theorem Cd.mono {t : TypeId} {z : Nat} {R R' : List PV → Prop} (hR : ∀ ps, R ps → R' ps) (h : Cd P t z R) : Cd P t z R' := fun enc W fuel cs x hx hw => by
 obtain ⟨h1, ps, h2, h3, h4⟩ := h enc W fuel cs x hx hw
 exact ⟨h1, ps, hR _ h2, h3, h4⟩
theorem Cd_int {t : TypeId} {k : IntKind} (ht : P.underlying t = some (.int k)) : Cd P t 1 fun ps => ∃ n, ps = [.sc (.int k n)] ∧ k.min ≤ n ∧ n ≤ k.max := fun enc W fuel cs x hx _ => by
 obtain ⟨m, rfl, _, hw⟩ := DataW.trod_int ht hx
 simp only [Lit.wf, Bool.and_eq_true, decide_eq_true_eq] at hw
 refine ⟨rfl, _, ⟨m, rfl, hw.1, hw.2⟩, rfl, fun k p hk => ?_⟩
 cases k with
 | zero => simp at hk; subst hk; exact ⟨_, rfl, .sc _ rfl⟩
 | succ k => simp at hk
theorem uniform_get {α : Type} {z : Nat} : ∀ {es : List (List α)}, (∀ e, e ∈ es → e.length = z) → ∀ {k : Nat} {p : α}, es.flatten[k]? = some p → ∃ (i j : Nat) (e : List α), es[i]? = some e ∧ e[j]? = some p ∧ k = i * z + j
 | [], _, k, p, h => by simp at h
 | e :: es, hz, k, p, h => by
  rw [List.flatten_cons] at h
  have he := hz e (List.mem_cons_self ..)
  rcases Nat.lt_or_ge k e.length with hk | hk
  ·rw [List.getElem?_append_left hk] at h
   exact ⟨0, k, e, rfl, h, by omega⟩
  ·rw [List.getElem?_append_right hk] at h
   obtain ⟨i, j, e', h1, h2, h3⟩ := uniform_get (fun e he => hz e (List.mem_cons_of_mem _ he)) h
   exact ⟨i + 1, j, e', h1, h2, by rw [Nat.add_mul]; omega⟩
theorem weights_mem_all {T : Type} {e : TypeId} : ∀ {l : List (DataW T)} {d : DataW T}, d ∈ l → ∀ n ∈ d.weights P e, n ∈ DataW.weightsAll P e l
 | d0 :: l, d, h, n, hn => by
  simp only [DataW.weightsAll, List.mem_append]
  rcases List.mem_cons.1 h with rfl | h
  ·exact .inl hn
  ·exact .inr (weights_mem_all h n hn)
theorem Cd_slice {t e : TypeId} {z : Nat} {R : List PV → Prop} (ht : P.underlying t = some (.slice e)) (hz : P.cellsOf e = z) (hpos : 0 < z) (h : Cd P e z R) :
  Cd P t 1 fun ps => ∃ es, ps = [.sl z es] ∧ (∀ x, x ∈ es → R x) ∧ es.length * P.bytesOf e ≤ 140737488351232 := fun enc W fuel cs x hx hw => by
 rcases open_slice ht hx with ⟨rfl, _⟩ | ⟨a, len, cap, m, n, D, Pl, rfl, _, hl, hm, hmm, hxe, hel⟩
 ·exact ⟨rfl, _, ⟨[], rfl, (fun x h => nomatch h), by simp⟩, rfl, fun k p hk => by
   cases k with
   | zero => simp at hk; subst hk; exact ⟨_, rfl, .nil z⟩
   | succ k => simp at hk⟩
 ·simp only [if_true] at hmm
  subst hmm
  rw [hz] at hel
  rw [hxe] at hw
  simp only [DataW.weights, ht, List.all_cons, Bool.and_eq_true, decide_eq_true_eq, List.length_map, List.length_range] at hw
  obtain ⟨hw1, hw2⟩ := hw
  have hwl : len * P.bytesOf e ≤ 140737488351232 := Nat.le_trans (Nat.mul_le_mul_right _ (Nat.le_add_right _ _)) hw1
  have hD : ∀ i, i < m → ((D i).weights P e).all (· ≤ reachBytes) = true := fun i hi => by
   rw [List.all_eq_true]
   intro k hk
   refine List.all_eq_true.1 hw2 k ?_
   rw [List.mem_append]
   rcases Nat.lt_or_ge i len with hil | hil
   ·exact .inl (weights_mem_all (List.mem_map.2 ⟨i, List.mem_range.2 hil, rfl⟩) k hk)
   ·exact .inr (weights_mem_all (List.mem_map.2 ⟨i - len, List.mem_range.2 (by omega), rfl⟩) k (by rw [show len + (i - len) = i by omega]; exact hk))
  have hq : ∀ i, i < m → ∃ ps, R ps ∧ ps.length = z ∧ ∀ (j : Nat) p, ps[j]? = some p → ∃ v, W.cell? ((a.add (i * z)).add j) = some v ∧ PR (g0 W).ro p v := fun i hi => by
   obtain ⟨cs', h1, h2⟩ := hel i hi
   obtain ⟨_, c2, c3⟩ := World.cells?_some h1
   obtain ⟨_, ps, p1, p2, p3⟩ := h enc W n cs' _ h2 (hD i hi)
   refine ⟨ps, p1, p2, fun j p hj => ?_⟩
   obtain ⟨v, v1, v2⟩ := p3 j p hj
   have hlt := lt_of_get hj
   exact ⟨v, (c3 j (by omega)).trans v1, v2⟩
  have hsp : m = 0 ∨ a.spot = none := by
   rcases Nat.eq_zero_or_pos m with h0 | h0
   ·exact .inl h0
   ·right
    obtain ⟨ps, _, p2, p3⟩ := hq 0 h0
    obtain ⟨v, hv, _⟩ := p3 0 ps[0] (List.getElem?_eq_getElem (by omega))
    simp only [Nat.zero_mul, Addr.add] at hv
    unfold World.cell? at hv
    cases hs : a.spot with
    | none => rfl
    | some s =>
     split at hv
     ·simp [hs] at hv
     ·cases hv
  obtain ⟨F, hF⟩ := choose_lt (α := List PV) hq
  let es := (List.range len).map F
  have hes : es.length = len := by simp [es]
  have hlen : ∀ e, e ∈ es → e.length = z := fun e he => by
   obtain ⟨i, hi, rfl⟩ := List.mem_map.1 he
   exact (hF i (by have := List.mem_range.1 hi; omega)).2.1
  have hcell : ∀ (k : Nat) p, es.flatten[k]? = some p → ∃ v, W.cell? ⟨a.block, a.off + k, none⟩ = some v ∧ PR (g0 W).ro p v := fun k p hk => by
   obtain ⟨i, j, e, h1, h2, rfl⟩ := uniform_get hlen hk
   have hi : i < len := by have := lt_of_get h1; omega
   simp only [es, List.getElem?_map, List.getElem?_range hi, Option.map_some, Option.some.injEq] at h1
   subst h1
   have hs := hsp.resolve_left (by omega)
   obtain ⟨v, v1, v2⟩ := (hF i (by omega)).2.2 j p h2
   rw [add_plain hs, add_plain rfl] at v1
   exact ⟨v, by rw [← Nat.add_assoc]; exact v1, v2⟩
  refine ⟨rfl, _, ⟨es, rfl, fun x hx => ?_, by rw [hes]; exact hwl⟩, rfl, fun k p hk => ?_⟩
  ·obtain ⟨i, hi, rfl⟩ := List.mem_map.1 hx
   exact (hF i (by have := List.mem_range.1 hi; omega)).1
  ·cases k with
   | zero =>
    simp at hk; subst hk
    refine ⟨_, rfl, ?_⟩
    have := PR.sl (ro := (g0 W).ro) z es a m (fun k => (W.cell? ⟨a.block, a.off + k, none⟩).getD undef) hsp (by omega) hlen (fun k p hk => by
     obtain ⟨v, v1, _⟩ := hcell k p hk
     simp only [g0, v1, Option.getD_some]) (fun k p hk => by
     obtain ⟨v, v1, v2⟩ := hcell k p hk
     simp only [v1, Option.getD_some]; exact v2)
    rw [hes] at this
    exact this
   | succ k => simp at hk
theorem arg_sl {t : TypeId} {R : List PV → Prop} (hc : Cd P t 1 R) {T : Type} {enc : TypeId × Value → T} {W : World} {a : Option Addr} {len cap : Nat} {d : DataW T} {ps : List MemPlace}
  (h : DataW.Trod enc P W 0 (fun _ => true) true t (.slice a len cap) d ps) (hw : (d.weights P t).all (· ≤ reachBytes) = true) : ∃ p, R [p] ∧ VR (g0 W) 0 p.av (.slice a len cap) := by
 obtain ⟨fuel, hf⟩ := h
 obtain ⟨_, qs, h1, h2, h3⟩ := hc enc W fuel _ _ hf hw
 match qs, h2 with
 | [p], _ =>
  obtain ⟨v, v1, v2⟩ := h3 0 p rfl
  simp [Value.cells] at v1
  subst v1
  exact ⟨p, h1, .of_PR v2⟩
def ArgsR (g : Gh) (n : Nat) : List AV → List Value → Prop
 | [], [] => True
 | a :: r, v :: s => VR g n a v ∧ ArgsR g n r s
 | _, _ => False
theorem ArgsR.get {g : Gh} {n : Nat} : ∀ {asl : List AV} {vs : List Value}, ArgsR g n asl vs → vs.length = asl.length ∧ ∀ (i : Nat) c, asl[i]? = some c → VR g n c (vs.getD i undef)
 | [], [], _ => ⟨rfl, fun i c h => by simp at h⟩
 | a :: r, v :: s, h => by
  obtain ⟨h1, h2⟩ := ArgsR.get h.2
  refine ⟨by simp [h1], fun i c hc => ?_⟩
  cases i with
  | zero => simp at hc; subst hc; exact h.1
  | succ i => simp only [List.getElem?_cons_succ] at hc; simpa using h2 i c hc
 | [], _ :: _, h => h.elim
 | _ :: _, [], h => h.elim
theorem ACalls.law {f : FuncId} {args : List AV} {Q : Mem → Prop} (h : ACalls P f args [] fun r H' => r = .sc (.bool true) ∧ Q H') {W : World} {vals : List Value} (hv : ArgsR (g0 W) 0 args vals) :
  Calls P f vals.toArray W fun e W' => e = .returned (.bool true) ∧ Below W.heap.size W W' :=
 (h.mono fun _ _ q => q.1).below (by simpa using hv.get.1) fun i c hc => by simpa [List.getD_eq_getElem?_getD, Array.getD_eq_getD_getElem?] using hv.get.2 i c hc
end Go.Proofs.YtaaamoicidfgcaaGreat.Am
namespace Go.Proofs.YtaaamoicidfgcaaGreat.Am
open Go
set_option linter.unusedVariables false
def Det (r : AV) (H1 : Mem) : AV → Mem → Prop := fun r' H' => AVLe r' r ∧ H' = H1
theorem OpS.det {P : Program} {o : Oper} {fr : Frm} {H H1 : Mem} {r : AV} (h : OpS P o fr H (Det r H1)) : OpS P o fr H fun r' H' => r' = r ∧ H' = H1 := fun g w ev h1 h2 =>
 Ls.mono (fun v w' s => s.mono' fun r' H' g' v' ⟨k1, k2⟩ hv => ⟨r, ⟨rfl, k2⟩, k1 _ _ _ hv⟩) (h g w ev h1 h2)
section
variable {P : Program} {ops : Array Oper} {cs : List Nat} {rest : List Oper} {o : Oper} {fr : Frm} {H : Mem} {K : Frm → Mem → Prop}
theorem OpsS_nil (h : K fr H) : OpsS P ops [] fr H K := h
theorem OpsS_det (r : AV) (H1 : Mem) (hg : agd ops fr o = some true) (h : OpS P o fr H (Det r H1)) (h2 : OpsS P ops rest (fr.put o.dst r) H1 K) : OpsS P ops (o :: rest) fr H K := by
 simp only [OpsS, hg]
 exact h.det.mono fun r' H' ⟨e1, e2⟩ => by subst e1 e2; exact h2
theorem OpsS_skip (hg : agd ops fr o = some false) (h : OpsS P ops rest (fr.put o.dst undefA) H K) : OpsS P ops (o :: rest) fr H K := by
 simp only [OpsS, hg]
 exact h
theorem OpsS_test {b : Bool} (hg : agd ops fr o = some true) (h : OpS P o fr H (Det (.sc (.bool b)) H)) (h1 : b = true → OpsS P ops rest (fr.put o.dst (.sc (.bool true))) H K)
  (h2 : b = false → OpsS P ops rest (fr.put o.dst (.sc (.bool false))) H K) : OpsS P ops (o :: rest) fr H K := by
 refine OpsS_det (.sc (.bool b)) H hg h ?_
 cases b
 ·exact h2 rfl
 ·exact h1 rfl
variable {B : Mem} {J : Mem → Prop} {T : Bool}
theorem DRun_det0 (r : AV) (hg : agd ops fr o = some true) (h : ∀ H0 : Mem, OpS P o fr H0 (Det r H0)) (h2 : DRun P J T ops cs rest (fr.put o.dst r) B H K) : DRun P J T ops (0 :: cs) (o :: rest) fr B H K :=
 ⟨r, H, ⟨fun _ => rfl, fun _ => List.prefix_refl _, .inl rfl, .inl ⟨hg, .inl ⟨rfl, fun H0 _ => (h H0).det⟩⟩⟩, h2⟩
theorem DRun_det4 (r : AV) (hg : agd ops fr o = some true) (h : ∀ H0 : Mem, J H0 → OpS P o fr H0 (Det r H0)) (h2 : DRun P J T ops cs rest (fr.put o.dst r) B H K) : DRun P J T ops (0 :: cs) (o :: rest) fr B H K :=
 ⟨r, H, ⟨fun _ => rfl, fun _ => List.prefix_refl _, .inl rfl, .inl ⟨hg, .inl ⟨rfl, fun H0 hJ => (h H0 hJ).det⟩⟩⟩, h2⟩
theorem DRun_det1 (r : AV) (hg : agd ops fr o = some true) (h : ∀ H0 : Mem, B <+: H0 → OpS P o fr H0 (Det r H0)) (h2 : DRun P J T ops cs rest (fr.put o.dst r) B H K) : DRun P J T ops (1 :: cs) (o :: rest) fr B H K :=
 ⟨r, H, ⟨fun _ => rfl, fun _ => List.prefix_refl _, .inl rfl, .inl ⟨hg, .inr (.inl ⟨rfl, fun H0 hB => (h H0 hB).det⟩)⟩⟩, h2⟩
theorem DRun_det2 (r : AV) (H1 : Mem) (hg : agd ops fr o = some true) (h : OpS P o fr H (Det r H1)) (hJ : J H1) (h2 : DRun P J T ops cs rest (fr.put o.dst r) H1 H1 K) : DRun P J T ops (2 :: cs) (o :: rest) fr B H K :=
 ⟨r, H1, ⟨fun h => by simp at h, fun h => absurd rfl h, .inr (.inl hJ), .inl ⟨hg, .inr (.inr ⟨by simp, h.det⟩)⟩⟩, h2⟩
theorem DRun_det3 (r : AV) (H1 : Mem) (hg : agd ops fr o = some true) (h : OpS P o fr H (Det r H1)) (hp : H <+: H1) (hJ : J H1) (h2 : DRun P J T ops cs rest (fr.put o.dst r) B H1 K) : DRun P J T ops (3 :: cs) (o :: rest) fr B H K :=
 ⟨r, H1, ⟨fun h => by simp at h, fun _ => hp, .inr (.inl hJ), .inl ⟨hg, .inr (.inr ⟨by simp, h.det⟩)⟩⟩, h2⟩
theorem DRun_skipN {c : Nat} (hc : c ≠ 2) (hg : agd ops fr o = some false) (h : DRun P J T ops cs rest (fr.put o.dst undefA) B H K) : DRun P J T ops (c :: cs) (o :: rest) fr B H K :=
 ⟨undefA, H, ⟨fun _ => rfl, fun _ => List.prefix_refl _, .inl rfl, .inr ⟨hg, rfl, rfl⟩⟩, by rw [List.headD_cons, if_neg hc]; exact h⟩
theorem DRun_test0 {b : Bool} (hg : agd ops fr o = some true) (h : ∀ H0 : Mem, OpS P o fr H0 (Det (.sc (.bool b)) H0)) (h1 : b = true → DRun P J T ops cs rest (fr.put o.dst (.sc (.bool true))) B H K)
  (h2 : b = false → DRun P J T ops cs rest (fr.put o.dst (.sc (.bool false))) B H K) : DRun P J T ops (0 :: cs) (o :: rest) fr B H K := by
 refine DRun_det0 (.sc (.bool b)) hg h ?_
 cases b
 ·exact h2 rfl
 ·exact h1 rfl
end
theorem AVLe.trans {a b c : AV} (h : AVLe a b) (h' : AVLe b c) : AVLe a c := fun g n v hv => h' g n v (h g n v hv)
theorem AVLe.any (a : AV) : AVLe a .any := fun _ _ _ _ => .any _
theorem AVLe.agg {cs cs' : List AV} (h : ALe cs cs') : AVLe (.ag cs) (.ag cs') := fun g n v hv => by
 obtain ⟨h1, h2⟩ := h.get
 cases hv with
 | ag _ vs hs hx => exact .ag cs' vs (hs.trans h1) fun i c hc => by obtain ⟨c0, e0, l0⟩ := h2 i c hc; exact l0 _ _ _ (hx i c0 e0)
theorem AVLe.tup {cs cs' : List AV} (h : ALe cs cs') : AVLe (.tp cs) (.tp cs') := fun g n v hv => by
 obtain ⟨h1, h2⟩ := h.get
 cases hv with
 | tp _ vs hs hx => exact .tp cs' vs (hs.trans h1) fun i c hc => by obtain ⟨c0, e0, l0⟩ := h2 i c hc; exact l0 _ _ _ (hx i c0 e0)
theorem ALe.refl : ∀ l, ALe l l
 | [] => trivial
 | _ :: r => ⟨.refl _, ALe.refl r⟩
theorem ELe.refl : ∀ l, ELe l l
 | [] => trivial
 | _ :: r => ⟨.refl _, ELe.refl r⟩
def FlL (fr : Frm) : List (Nat × AV) → Prop
 | [] => True
 | (d, v) :: r => AVLe (fr d) v ∧ FlL fr r
theorem Reb.fl {N n0 : Nat} {fr : Frm} {H : Mem} {l : List (Nat × AV)} (h : FlL fr l) : Reb N n0 fr (Frm.of l) H H := fun g w tmps hn hf hm => by
 refine ⟨g, ⟨hf.size, fun t => ?_⟩, hm, .refl _ _ _, hn⟩
 induction l with
 | nil => exact .any _
 | cons p r ih =>
  obtain ⟨d, v⟩ := p
  by_cases e : t = d
  ·subst e
   simp only [Frm.of, if_true]
   exact h.1 _ _ _ (hf.vr t)
  ·simp only [Frm.of, if_neg e]
   exact ih h.2
def AVLt (n : Nat) (a a' : AV) : Prop := ∀ g m v, n < m → VR g m a v → VR g m a' v
theorem AVLt.of {n : Nat} {a a' : AV} (h : AVLe a a') : AVLt n a a' := fun g m v _ hv => h g m v hv
theorem AVLt.nil (n z : Nat) : AVLt n (.sc (.slice none 0 0)) (.sl z [] (.tk n)) := fun _ _ _ hn h => by cases h; exact .nil z _ fun t e => by cases e; exact hn
theorem AVLt.ex (n z : Nat) (es : List (List PV)) : AVLt n (.sl z es .ex) (.sl z es (.tk n)) := fun _ _ _ hn h => by
 cases h with
 | nil z => exact .nil z _ fun t e => by cases e; exact hn
 | sl z es k a cap f h1 h2 h3 h4 h5 => exact .sl z es _ a cap f h1 h2 h3 h4 ⟨hn, .inl h5⟩
def FtL (n : Nat) (fr : Frm) : List (Nat × AV) → Prop
 | [] => True
 | (d, v) :: r => AVLt n (fr d) v ∧ FtL n fr r
theorem Reb.void {N n0 : Nat} {fr : Frm} {H : Mem} {l : List (Nat × AV)} (h : FtL H.length fr l) : Reb N n0 fr (Frm.of l) H (H ++ [.tok]) := fun g w tmps hl hf hm => by
 obtain ⟨m1, m2⟩ := hm.push_void
 refine ⟨_, ⟨hf.size, ?_⟩, m1, ⟨⟨m2.gle.ro, fun i hi => m2.gle.mu i (by omega)⟩, m2.un, m2.size, m2.os, m2.tape, m2.output⟩, by simp; omega⟩
 intro t
 have hfr := (hf.mono m2.gle (by simp : H.length ≤ (H ++ [Ent.tok]).length)).vr t
 generalize tmps.getD t undef = u at hfr
 induction l with
 | nil => exact .any _
 | cons p r ih =>
  obtain ⟨d, v⟩ := p
  by_cases e : t = d
  ·subst e
   simp only [Frm.of, if_true]
   exact h.1 _ _ _ (by simp) hfr
  ·simp only [Frm.of, if_neg e]
   exact ih h.2
theorem MR.le {g : Gh} {H : Mem} {w : World} {id : Nat} {cs cs' : List AV} (hm : MR g H w) (hid : H[id]? = some (.cells cs)) (hl : ALe cs cs') : MR g (H.set id (.cells cs')) w := by
 obtain ⟨q1, q2⟩ := hl.get
 have hlen : (H.set id (Ent.cells cs')).length = H.length := by simp
 refine ⟨hm.ro, fun id' e he => ?_, fun b i hb => by rw [hlen]; exact hm.ow b i hb⟩
 rw [hlen]
 rcases get_set he with ⟨hne, he⟩ | ⟨rfl, rfl, _⟩
 ·exact hm.ent id' e he
 ·rcases hm.ent _ _ hid with ⟨e1, e2⟩ | ⟨h1, h2, h3, h4, h5⟩
  ·exact .inl ⟨List.eq_nil_of_length_eq_zero (by rw [← q1, e1]; rfl), e2⟩
  refine .inr ⟨h1, h2, by rw [← q1]; exact h3, h4, fun k c hc => ?_⟩
  obtain ⟨c0, e0, l0⟩ := q2 k c hc
  obtain ⟨v, hv, hvr⟩ := h5 k c0 e0
  exact ⟨v, hv, l0 _ _ _ hvr⟩
def ALt (n : Nat) : List AV → List AV → Prop
 | [], [] => True
 | a :: r, a' :: r' => AVLt n a a' ∧ ALt n r r'
 | _, _ => False
theorem ALt.get {n : Nat} : ∀ {l l' : List AV}, ALt n l l' → l'.length = l.length ∧ ∀ (i : Nat) c', l'[i]? = some c' → ∃ c, l[i]? = some c ∧ AVLt n c c'
 | [], [], _ => ⟨rfl, fun i c h => by simp at h⟩
 | a :: r, a' :: r', h => by
  obtain ⟨h1, h2⟩ := ALt.get h.2
  refine ⟨by simp [h1], fun i c hc => ?_⟩
  cases i with
  | zero => simp at hc; subst hc; exact ⟨a, rfl, h.1⟩
  | succ i => simp only [List.getElem?_cons_succ] at hc ⊢; exact h2 i c hc
 | [], _ :: _, h => h.elim
 | _ :: _, [], h => h.elim
theorem Reb.mem {N n0 : Nat} {fr : Frm} {H : Mem} {id : Nat} {cs cs' : List AV} (hid : H[id]? = some (.cells cs)) (hl : ALe cs cs') : Reb N n0 fr fr H (H.set id (.cells cs')) := fun g w tmps hn hf hm =>
 ⟨g, by rw [List.length_set]; exact hf, hm.le hid hl, .refl _ _ _, by rw [List.length_set]; exact hn⟩
section
variable {P : Program} {N n0 : Nat} {fr : Frm} {H : Mem} {Q : Exit → Frm → Mem → Prop}
theorem aw_loopD {S T G : Type} {body : Code} {b : S → Option (Ctl T S)} {n : Nat} {s0 : S} {t : T} (hl : loopN b n s0 = some t) (F : S → G → Frm) (I : S → G → Mem → Prop) (g0 : G) {H1 : Mem} (hI : I s0 g0 H1)
  (hR : Reb N n0 fr (F s0 g0) H H1)
  (step : ∀ s g M c, I s g M → b s = some c → (∀ t', c = .ret t' → t' = t) → aw P N n0 body (F s g) M (thenQ (fun fr' M' => ∃ s' g' M'', c = .go s' ∧ I s' g' M'' ∧ Reb N n0 fr' (F s' g') M' M'') Q)) :
  aw P N n0 (.loop body) fr H Q := by
 refine aw_reb hR ?_
 refine aw_loop (fun k fr' M' => ∃ s g, loopN b k s = some t ∧ fr' = F s g ∧ I s g M') (k := n) ⟨s0, g0, hl, rfl, hI⟩ ?_
 rintro k fr' M' ⟨s, g, hk, rfl, hi⟩
 cases k with
 | zero => cases hk
 | succ k =>
  simp only [loopN] at hk
  cases hb : b s with
  | none => rw [hb] at hk; cases hk
  | some c =>
   refine aw.conseq (fun e fr2 M2 q => ?_) (step s g M' c hi hb fun t' e => by rw [hb, e] at hk; simpa using hk)
   cases e with
   | normal =>
    obtain ⟨s', g', M'', rfl, i2, r2⟩ := q
    rw [hb] at hk
    exact ⟨_, _, r2, k, Nat.lt_succ_self k, s', g', hk, rfl, i2⟩
   | _ => exact ⟨_, _, .refl, q⟩
theorem aw_joinD {S E G : Type} {x y : Code} (c : Ctl E S) (F : S → G → Frm) (I : S → G → Mem → Prop)
  (h : aw P N n0 x fr H (thenQ (fun fr' M' => ∃ s g M'', c = .go s ∧ I s g M'' ∧ Reb N n0 fr' (F s g) M' M'') Q)) (h2 : ∀ s g M, c = .go s → I s g M → aw P N n0 y (F s g) M Q) : aw P N n0 (.seq x y) fr H Q :=
 aw_seq (aw.conseq (fun e fr' H' q => by
  cases e with
  | normal =>
   obtain ⟨s, g, M'', e1, i1, r1⟩ := q
   exact ⟨_, _, r1, h2 s g M'' e1 i1⟩
  | _ => exact ⟨_, _, .refl, q⟩) h)
theorem aw_joinS {S G : Type} {x y : Code} (s : S) (F : S → G → Frm) (I : S → G → Mem → Prop)
  (h : aw P N n0 x fr H (thenQ (fun fr' M' => ∃ g M'', I s g M'' ∧ Reb N n0 fr' (F s g) M' M'') Q)) (h2 : ∀ g M, I s g M → aw P N n0 y (F s g) M Q) : aw P N n0 (.seq x y) fr H Q :=
 aw_seq (aw.conseq (fun e fr' H' q => by
  cases e with
  | normal =>
   obtain ⟨g, M'', i1, r1⟩ := q
   exact ⟨_, _, r1, h2 g M'' i1⟩
  | _ => exact ⟨_, _, .refl, q⟩) h)
end
section
variable {P : Program} {N n0 : Nat} {fr : Frm} {H : Mem} {Q : Exit → Frm → Mem → Prop}
theorem aw_tailD {S E G : Type} {x : Code} (c : Ctl E S) (F : S → G → Frm) (I : S → G → Mem → Prop)
  (h : aw P N n0 x fr H (thenQ (fun fr' M' => ∃ s g M'', c = .go s ∧ I s g M'' ∧ Reb N n0 fr' (F s g) M' M'') Q)) (h2 : ∀ s g M, c = .go s → I s g M → Q .normal (F s g) M) : aw P N n0 x fr H Q :=
 aw.conseq (fun e fr' H' q => by
  cases e with
  | normal =>
   obtain ⟨s, g, M'', e1, i1, r1⟩ := q
   exact ⟨_, _, r1, h2 s g M'' e1 i1⟩
  | _ => exact ⟨_, _, .refl, q⟩) h
theorem aw_tailS {S G : Type} {x : Code} (s : S) (F : S → G → Frm) (I : S → G → Mem → Prop)
  (h : aw P N n0 x fr H (thenQ (fun fr' M' => ∃ g M'', I s g M'' ∧ Reb N n0 fr' (F s g) M' M'') Q)) (h2 : ∀ g M, I s g M → Q .normal (F s g) M) : aw P N n0 x fr H Q :=
 aw.conseq (fun e fr' H' q => by
  cases e with
  | normal =>
   obtain ⟨g, M'', i1, r1⟩ := q
   exact ⟨_, _, r1, h2 g M'' i1⟩
  | _ => exact ⟨_, _, .refl, q⟩) h
end
section
variable {A M : Mem} {i j : Nat} {x y : Ent}
theorem get_app {tl : Mem} (h : M[i]? = some x) : (M ++ tl)[i]? = some x := by rw [List.getElem?_append_left (lt_of_get h)]; exact h
theorem get_new : (M ++ [x])[M.length]? = some x := by simp
theorem get_new2 {y : Ent} : (M.set i y ++ [x])[M.length]? = some x := by
 have q := get_new (M := M.set i y) (x := x)
 rw [List.length_set] at q; exact q
theorem get_self (h : M[i]? = some y) : (M.set i x)[i]? = some x := by rw [List.getElem?_set_self (lt_of_get h)]
theorem get_ne (hne : i ≠ j) (h : M[i]? = some x) : (M.set j y)[i]? = some x := by rw [List.getElem?_set_ne (Ne.symm hne)]; exact h
theorem pre_app {tl : Mem} (h : A <+: M) : A <+: M ++ tl := h.trans (List.prefix_append _ _)
theorem pre_get (h : A <+: M) (hi : A[i]? = some x) : M[i]? = some x := by
 obtain ⟨tl, rfl⟩ := h
 exact get_app hi
theorem pre_hi (h : A <+: M) (hi : A.length ≤ i) : A <+: M.set i x := by
 obtain ⟨tl, rfl⟩ := h
 rw [List.set_append_right _ _ hi]
 exact List.prefix_append _ _
theorem pre_lo (h : A <+: M) (hi : i < A.length) : A.set i x <+: M.set i x := by
 obtain ⟨tl, rfl⟩ := h
 rw [List.set_append_left _ _ hi]
 exact List.prefix_append _ _
theorem mset_same (h : M[i]? = some x) : M.set i x = M := by
 apply List.ext_getElem?
 intro k
 by_cases e : i = k
 ·subst e; rw [get_self h, h]
 ·rw [List.getElem?_set_ne e]
theorem pre_set (h : M[i]? = some x) : M.set i x <+: M := by rw [mset_same h]; exact List.prefix_refl _
theorem tok_ne {cs : List AV} (h : M[i]? = some (.cells cs)) (h2 : M[j]? = some .tok) : i ≠ j := by
 rintro rfl
 rw [h] at h2; cases h2
theorem pre_len (h : A <+: M) : A.length ≤ M.length := h.length_le
end
def AV.clo1 : AV → Bool
 | .any | .sc _ | .sl _ _ .no | .sl _ _ .ex | .ep _ => true
 | _ => false
def AV.clo2 : AV → Bool
 | .ag cs => cs.all AV.clo1
 | a => a.clo1
def AV.clo : AV → Bool
 | .tp cs => cs.all AV.clo2
 | a => a.clo2
theorem AV.clo1_bd {n : Nat} {a : AV} (h : a.clo1 = true) : Bd n a := by
 unfold AV.clo1 at h
 split at h
 ·exact .any
 ·exact .sc _
 ·exact .sl _ _ _ fun t e => by cases e
 ·exact .sl _ _ _ fun t e => by cases e
 ·exact .ep _
 ·cases h
theorem AV.clo2_bd {n : Nat} {a : AV} (h : a.clo2 = true) : Bd n a := by
 unfold AV.clo2 at h
 split at h
 ·exact .ag _ fun i c hc => clo1_bd (List.all_eq_true.1 h c (List.mem_of_getElem? hc))
 ·exact clo1_bd h
theorem AV.clo_bd {n : Nat} {a : AV} (h : a.clo = true) : Bd n a := by
 unfold AV.clo at h
 split at h
 ·exact .tp _ fun i c hc => clo2_bd (List.all_eq_true.1 h c (List.mem_of_getElem? hc))
 ·exact clo2_bd h
theorem MBd.set {H : Mem} {p : Nat} {cs : List AV} (hH : MBd H) (hc : cs.all AV.clo1 = true) : MBd (H.set p (.cells cs)) := fun id e he => by
 rw [List.length_set]
 rcases get_set he with ⟨_, he⟩ | ⟨rfl, rfl, _⟩
 ·exact hH id e he
 ·exact fun i c hc' => AV.clo1_bd (List.all_eq_true.1 hc c (List.mem_of_getElem? hc'))
theorem ACalls.done {P : Program} {f : FuncId} {args : List AV} {H H1 : Mem} {r0 : AV} (hn : H.length ≤ H1.length) (hB : MBd H → MBd H1) (hb : Bd H1.length r0)
  (h : ACalls P f args H fun r M => AVLe r r0 ∧ H1 <+: M) : ACalls P f args H fun r M => r = r0 ∧ M = H1 := by
 refine ⟨h.1, fun g w vals hm hs hv => (h.2 g w vals hm hs hv).mono ?_⟩
 rintro e w' ⟨v, he, s⟩
 refine ⟨v, he, SR.trim (R := fun r M => r = r0 ∧ H1 <+: M) (s.mono' fun r' H' g' v' ⟨k1, k2⟩ hv' => ⟨r0, ⟨rfl, k2⟩, k1 _ _ _ hv'⟩) ?_⟩
 rintro r H' ⟨rfl, tl, rfl⟩
 exact ⟨H1, tl, rfl, hn, hB fun id e he => (hm.ent id e he).bd, hb, rfl, rfl⟩
theorem ACalls.done0 {P : Program} {f : FuncId} {args : List AV} {H : Mem} {r0 : AV} (hb : r0.clo = true)
  (h : ACalls P f args H fun r M => AVLe r r0 ∧ H <+: M) : ACalls P f args H fun r M => r = r0 ∧ M = H := ACalls.done (Nat.le_refl _) id (AV.clo_bd hb) h
end Go.Proofs.YtaaamoicidfgcaaGreat.Am
namespace Go.Proofs.YtaaamoicidfgcaaGreat.Am
open Go
set_option linter.unusedVariables false
section
variable {P : Program} {fr : Frm} {H : Mem} {dst : Option Nat} {ty : TypeId} {pos : String} {after : Array Edge} {guard : Option (Nat × Bool)}
theorem o_move {x : Operand} {r : AV} (h : AVLe (aev fr x) r) : OpS P ⟨dst, .move x, ty, pos, after, guard⟩ fr H (Det r H) := opS_move ⟨h, rfl⟩
theorem o_assign {x : Operand} {r : AV} (h : AVLe (aev fr x) r) : OpS P ⟨dst, .assign x, ty, pos, after, guard⟩ fr H (Det r H) := opS_assign ⟨h, rfl⟩
theorem o_pick {c x y : Operand} {b : Bool} {r : AV} (hc : aev fr c = .sc (.bool b)) (h : AVLe (if b then aev fr x else aev fr y) r) : OpS P ⟨dst, .pick c x y, ty, pos, after, guard⟩ fr H (Det r H) := opS_pick hc ⟨h, rfl⟩
theorem o_bin {op : BinOp} {t t' : TypeId} {x y : Operand} {v : Value} (hv : aBin P op t (aev fr x) (aev fr y) = some v) : OpS P ⟨dst, .binOp op t x y t', ty, pos, after, guard⟩ fr H (Det (.sc v) H) := opS_binOp hv ⟨.refl _, rfl⟩
theorem o_int {op : BinOp} {t t' : TypeId} {x y : Operand} {k : IntKind} {a b : Int} {v : Value} (hx : aev fr x = .sc (.int k a)) (hy : aev fr y = .sc (.int k b)) (ho : (match op with | .shl | .shr => false | _ => true) = true)
  (hv : intBin op k a b = some v) : OpS P ⟨dst, .binOp op t x y t', ty, pos, after, guard⟩ fr H (Det (.sc v) H) := o_bin (by
 rw [hx, hy]
 cases op <;> first | exact absurd ho (by decide) | simpa [aBin] using hv)
theorem o_rem {t t' : TypeId} {x y : Operand} {k : IntKind} {a b n : Int} (hx : aev fr x = .sc (.int k a)) (hy : aev fr y = .sc (.int k b)) (hn : remI a b = some n) :
  OpS P ⟨dst, .binOp .rem t x y t', ty, pos, after, guard⟩ fr H (Det (.sc (.int k n)) H) := o_int hx hy rfl (by
 obtain ⟨h0, rfl⟩ := remI_some hn
 simp only [intBin, if_neg h0])
theorem o_str {op : BinOp} {t t' : TypeId} {x y : Operand} {a b : List UInt8} {v : Value} (hx : aev fr x = .sc (.string ⟨a.toArray⟩)) (hy : aev fr y = .sc (.string ⟨b.toArray⟩)) (hv : strBin op ⟨a.toArray⟩ ⟨b.toArray⟩ = some v) :
  OpS P ⟨dst, .binOp op t x y t', ty, pos, after, guard⟩ fr H (Det (.sc v) H) := o_bin (by rw [hx, hy]; exact hv)
theorem o_eqS {t t' : TypeId} {x y : Operand} {a b : List UInt8} (hx : aev fr x = .sc (.string ⟨a.toArray⟩)) (hy : aev fr y = .sc (.string ⟨b.toArray⟩)) :
  OpS P ⟨dst, .binOp .eql t x y t', ty, pos, after, guard⟩ fr H (Det (.sc (.bool (a == b))) H) := o_str hx hy (by simp [strBin])
theorem o_nilPt {op : BinOp} {t t' e : TypeId} {x y : Operand} {b : Bool} {v : Value} (hu : P.underlying t = some (.pointer e)) (hx : twoNil (nilPt (aev fr x)) (nilPt (aev fr y)) = some b)
  (hs : (match aev fr x, aev fr y with | .sc (.int _ _), .sc (.int _ _) => false | .sc (.string _), .sc (.string _) => false | _, _ => true) = true)
  (hv : (match op with | .eql => some (Value.bool b) | .neq => some (.bool (!b)) | _ => none) = some v) : OpS P ⟨dst, .binOp op t x y t', ty, pos, after, guard⟩ fr H (Det (.sc v) H) := o_bin (by
 unfold aBin
 split
 ·rename_i h1 h2; simp only [h1, h2] at hs; cases hs
 ·rename_i h1 h2; simp only [h1, h2] at hs; cases hs
 ·cases op <;> simp only [aEq, hu, hx] at hv ⊢ <;> first | exact hv | cases hv)
theorem o_convI {s d : TypeId} {x : Operand} {k k' : IntKind} {n : Int} {u : TypeDesc} (hs : P.underlying s = some u) (hd : P.underlying d = some (.int k)) (hx : aev fr x = .sc (.int k' n)) :
  OpS P ⟨dst, .convert s d x, ty, pos, after, guard⟩ fr H (Det (.sc (.int k (k.wrap n))) H) := opS_convert (v := .int k (k.wrap n)) (by simp only [aConv, hs, hd, hx]) ⟨.refl _, rfl⟩
theorem all_c_u8 (l : List Int) : ((l.map c_u8).all fun e => (byteOf e).isSome) = true := by
 rw [List.all_map, List.all_eq_true]
 intro x _
 rfl
theorem bytesOf_c_u8 (l : List Int) : bytesOf (l.map c_u8) = ⟨(strOf l).toArray⟩ := by
 unfold bytesOf strOf
 rw [List.filterMap_map]
 have : (byteOf ∘ c_u8) = fun n => some (u8 n) := funext fun _ => rfl
 rw [this]
 congr 2
 induction l with
 | nil => rfl
 | cons x l ih => simp [ih]
theorem o_convS {s d e : TypeId} {x : Operand} {l : List Int} {k : Tk} (hs : P.underlying s = some (.slice e)) (he : P.underlying e = some (.int .u8)) (hd : P.underlying d = some .string) (hx : aev fr x = .sl 1 (l.map c_u8) k) :
  OpS P ⟨dst, .convert s d x, ty, pos, after, guard⟩ fr H (Det (.sc (.string ⟨(strOf l).toArray⟩)) H) := opS_convert (v := .string ⟨(strOf l).toArray⟩) (by simp only [aConv, hs, hd, hx, he, if_true, all_c_u8, bytesOf_c_u8]) ⟨.refl _, rfl⟩
theorem o_alloc {t : TypeId} {s b : Nat} {z : Value} {H1 : Mem} (ht : tinf P t = some (s, b, some z)) (hM : H1 = H ++ [.cells (zeroCs z)]) : OpS P ⟨dst, .alloc t, ty, pos, after, guard⟩ fr H (Det (.pt H.length 0) H1) := opS_alloc ht ⟨.refl _, hM.symm⟩
theorem o_box {t : TypeId} {x : Operand} {H1 : Mem} (hf : (aev fr x).flat = true) (hM : H1 = H ++ [.cells (aev fr x).cells]) : OpS P ⟨dst, .box t x, ty, pos, after, guard⟩ fr H (Det (.pt H.length 0) H1) := opS_box hf ⟨.refl _, hM.symm⟩
theorem o_extract {x : Operand} {i : Nat} {vs : List AV} {a : AV} (hx : aev fr x = .tp vs) (ha : vs[i]? = some a) : OpS P ⟨dst, .extract x i, ty, pos, after, guard⟩ fr H (Det a H) := opS_extract hx ha ⟨.refl _, rfl⟩
theorem o_nilCheck {x : Operand} {r : AV} (ht : (aev fr x).there = true) (h : AVLe (aev fr x) r) : OpS P ⟨dst, .nilCheck x, ty, pos, after, guard⟩ fr H (Det r H) := opS_nilCheck ht ⟨h, rfl⟩
theorem o_makeFunc {f : Fn} {first caps : Array Operand} {fs cs : List AV} (hf : first.toList.map (aev fr) = fs) (hc : caps.toList.map (aev fr) = cs) : OpS P ⟨dst, .makeFunc f first caps, ty, pos, after, guard⟩ fr H (Det (.fn f fs cs) H) := opS_makeFunc (by rw [hf, hc]; exact ⟨.refl _, rfl⟩)
theorem o_loadE {t : TypeId} {x : Operand} {q : Nat × Nat × Option Value} {p : PV} {ps : List PV} {r : AV} (hag : aggT P t = some false) (hti : tinf P t = some q) (hx : aev fr x = .ep (p :: ps)) (h : AVLe p.av r) :
  OpS P ⟨dst, .load t x, ty, pos, after, guard⟩ fr H (Det r H) := opS_load (by simp only [aLoad, hag, hti, hx]; exact ⟨h, rfl⟩)
theorem o_loadEA {t : TypeId} {x : Operand} {s b : Nat} {z : Option Value} {cs : List PV} {r : AV} (hag : aggT P t = some true) (hti : tinf P t = some (s, b, z)) (hx : aev fr x = .ep cs) (hl : s ≤ cs.length)
  (h : AVLe (.ag ((cs.take s).map PV.av)) r) : OpS P ⟨dst, .load t x, ty, pos, after, guard⟩ fr H (Det r H) := opS_load (by simp only [aLoad, hag, hti, hx]; exact ⟨hl, h, rfl⟩)
theorem o_loadP {t : TypeId} {x : Operand} {q : Nat × Nat × Option Value} {id off : Nat} {cs : List AV} {c r : AV} (hag : aggT P t = some false) (hti : tinf P t = some q) (hx : aev fr x = .pt id off) (hm : H[id]? = some (.cells cs))
  (hc : cs[off]? = some c) (h : AVLe c r) : OpS P ⟨dst, .load t x, ty, pos, after, guard⟩ fr H (Det r H) := opS_load (by simp only [aLoad, hag, hti, hx, hm, hc]; exact ⟨h, rfl⟩)
theorem o_loadPA {t : TypeId} {x : Operand} {s b : Nat} {z : Option Value} {id off : Nat} {cs : List AV} {r : AV} (hag : aggT P t = some true) (hti : tinf P t = some (s, b, z)) (hx : aev fr x = .pt id off) (hm : H[id]? = some (.cells cs))
  (hl : off + s ≤ cs.length) (h : AVLe (.ag ((cs.drop off).take s)) r) : OpS P ⟨dst, .load t x, ty, pos, after, guard⟩ fr H (Det r H) := opS_load (by simp only [aLoad, hag, hti, hx, hm]; exact ⟨hl, h, rfl⟩)
theorem o_store {t : TypeId} {x y : Operand} {s b : Nat} {z : Option Value} {id off : Nat} {cs cs' : List AV} {v : AV} {H1 : Mem} (hti : tinf P t = some (s, b, z)) (hx : aev fr x = .pt id off) (hy : aev fr y = v) (hm : H[id]? = some (.cells cs))
  (h0 : s ≠ 0) (hf : v.flat = true) (hs : v.cells.length = s) (hc : v.cells.all AV.cellish = true) (hl : off + s ≤ cs.length) (he : setAt cs off v.cells = cs') (hM : H1 = H.set id (.cells cs')) :
  OpS P ⟨dst, .store t x y, ty, pos, after, guard⟩ fr H (Det undefA H1) := opS_store (by
 subst hy he
 simp only [aStore, hti, hx, hm]
 exact ⟨h0, hf, hs, hc, hl, .refl _, hM.symm⟩)
theorem o_fieldAddrP {s ft fo : Nat} {x : Operand} {i : Nat} {fs : Array Field} {sz b : Nat} {z : Option Value} {id off : Nat} (hu : P.underlying s = some (.struct fs)) (hf : (fs[i]?).map (fun f => (f.type, f.offset)) = some (ft, fo)) (ht : tinf P ft = some (sz, b, z)) (hq : sz ≠ 0)
  (hx : aev fr x = .pt id off) : OpS P ⟨dst, .fieldAddr s x i, ty, pos, after, guard⟩ fr H (Det (.pt id (off + fo)) H) := opS_fieldAddr (by
 cases hf' : fs[i]? with
 | none => rw [hf'] at hf; cases hf
 | some f =>
  rw [hf'] at hf
  cases hf
  simp only [aFieldAddr, hu, hf', ht, hx]
  exact ⟨hq, .refl _, rfl⟩)
theorem o_fieldAddrE {s ft fo : Nat} {x : Operand} {i : Nat} {fs : Array Field} {sz b : Nat} {z : Option Value} {cs : List PV} (hu : P.underlying s = some (.struct fs)) (hf : (fs[i]?).map (fun f => (f.type, f.offset)) = some (ft, fo)) (ht : tinf P ft = some (sz, b, z)) (hq : sz ≠ 0)
  (hx : aev fr x = .ep cs) : OpS P ⟨dst, .fieldAddr s x i, ty, pos, after, guard⟩ fr H (Det (.ep (cs.drop fo)) H) := opS_fieldAddr (by
 cases hf' : fs[i]? with
 | none => rw [hf'] at hf; cases hf
 | some f =>
  rw [hf'] at hf
  cases hf
  simp only [aFieldAddr, hu, hf', ht, hx]
  exact ⟨hq, .refl _, rfl⟩)
theorem o_field {t ft fo : Nat} {x : Operand} {i : Nat} {fs : Array Field} {q : Nat × Nat × Option Value} {cs : List AV} {c r : AV} (hu : P.underlying t = some (.struct fs)) (hf : (fs[i]?).map (fun f => (f.type, f.offset)) = some (ft, fo)) (hag : aggT P ft = some false)
  (ht : tinf P ft = some q) (hx : aev fr x = .ag cs) (hc : cs[fo]? = some c) (h : AVLe c r) : OpS P ⟨dst, .field t x i, ty, pos, after, guard⟩ fr H (Det r H) := opS_field (by
 cases hf' : fs[i]? with
 | none => rw [hf'] at hf; cases hf
 | some f =>
  rw [hf'] at hf
  cases hf
  simp only [aField, aPart, hu, hf', hag, ht, hx, hc]
  exact ⟨h, rfl⟩)
theorem o_fieldA {t ft fo : Nat} {x : Operand} {i : Nat} {fs : Array Field} {s b : Nat} {z : Option Value} {cs : List AV} {r : AV} (hu : P.underlying t = some (.struct fs)) (hf : (fs[i]?).map (fun f => (f.type, f.offset)) = some (ft, fo)) (hag : aggT P ft = some true)
  (ht : tinf P ft = some (s, b, z)) (hx : aev fr x = .ag cs) (hl : fo + s ≤ cs.length) (h : AVLe (.ag ((cs.drop fo).take s)) r) : OpS P ⟨dst, .field t x i, ty, pos, after, guard⟩ fr H (Det r H) := opS_field (by
 cases hf' : fs[i]? with
 | none => rw [hf'] at hf; cases hf
 | some f =>
  rw [hf'] at hf
  cases hf
  simp only [aField, aPart, hu, hf', hag, ht, hx]
  exact ⟨hl, h, rfl⟩)
section
variable {α : Type} {c : α → List PV}
theorem map_idx {l : List α} {i : Int} {a : α} (h : idx l i = some a) : 0 ≤ i ∧ (l.map c)[i.toNat]? = some (c a) := by
 obtain ⟨h0, h1⟩ := idx_some h
 exact ⟨h0, by rw [List.getElem?_map, h1]; rfl⟩
theorem o_indexAddr {t e : TypeId} {x y : Operand} {s b : Nat} {z : Option Value} {l : List α} {k : Tk} {kk : IntKind} {i : Int} {a : α} (hu : P.underlying t = some (.slice e)) (hti : tinf P e = some (s, b, z)) (hx : aev fr x = .sl s (l.map c) k)
  (hy : aev fr y = .sc (.int kk i)) (hi : idx l i = some a) : OpS P ⟨dst, .indexAddr t x y, ty, pos, after, guard⟩ fr H (Det (.ep (c a)) H) := opS_indexAddr (by
 obtain ⟨h0, h1⟩ := map_idx (c := c) hi
 simp only [aIndexAddr, hu, hti, hx, hy, h1]
 exact ⟨trivial, h0, .refl _, rfl⟩)
theorem o_indexAddrH {t e : TypeId} {x y : Operand} {s b : Nat} {z : Option Value} {id off len mc : Nat} {kk : IntKind} {i : Int} (hu : P.underlying t = some (.slice e)) (hti : tinf P e = some (s, b, z)) (hx : aev fr x = .hs id off len mc s)
  (hy : aev fr y = .sc (.int kk i)) (h0 : 0 ≤ i) (h1 : i < len) : OpS P ⟨dst, .indexAddr t x y, ty, pos, after, guard⟩ fr H (Det (.pt id (off + i.toNat * s)) H) := opS_indexAddr (by
 simp only [aIndexAddr, hu, hti, hx, hy]
 exact ⟨trivial, h0, h1, .refl _, rfl⟩)
theorem o_lenL {t e : TypeId} {x : Operand} {z : Nat} {l : List α} {k : Tk} (hu : P.underlying t = some (.slice e)) (hx : aev fr x = .sl z (l.map c) k) :
  OpS P ⟨dst, .call ⟨.builtin .len, #[x], #[t]⟩, ty, pos, after, guard⟩ fr H (Det (.sc (.int .i64 l.length)) H) := opS_len (n := l.length) (by simp only [aLen, hu, hx, List.length_map]) ⟨.refl _, rfl⟩
theorem o_lenH {t e : TypeId} {x : Operand} {id off len mc s : Nat} (hu : P.underlying t = some (.slice e)) (hx : aev fr x = .hs id off len mc s) :
  OpS P ⟨dst, .call ⟨.builtin .len, #[x], #[t]⟩, ty, pos, after, guard⟩ fr H (Det (.sc (.int .i64 len)) H) := opS_len (n := len) (by simp only [aLen, hu, hx]) ⟨.refl _, rfl⟩
theorem o_max {ats : Array TypeId} {x y : Operand} {k : IntKind} {a b : Int} (hx : aev fr x = .sc (.int k a)) (hy : aev fr y = .sc (.int k b)) : OpS P ⟨dst, .call ⟨.builtin .max, #[x, y], ats⟩, ty, pos, after, guard⟩ fr H (Det (.sc (.int k (maxI a b))) H) :=
 opS_max (v := .int k (maxI a b)) (by rw [hx, hy]; rfl) ⟨.refl _, rfl⟩
theorem o_min {ats : Array TypeId} {x y : Operand} {k : IntKind} {a b : Int} (hx : aev fr x = .sc (.int k a)) (hy : aev fr y = .sc (.int k b)) : OpS P ⟨dst, .call ⟨.builtin .min, #[x, y], ats⟩, ty, pos, after, guard⟩ fr H (Det (.sc (.int k (minI a b))) H) :=
 opS_min (v := .int k (minI a b)) (by rw [hx, hy]; rfl) ⟨.refl _, rfl⟩
theorem o_slice {t e : TypeId} {x : Operand} {lo hi mx : Option Operand} {s b : Nat} {z : Option Value} {l m : List α} {k : Tk} {lo' hi' mx' : Option (IntKind × Int)} (hu : P.underlying t = some (.slice e)) (hti : tinf P e = some (s, b, z))
  (hx : aev fr x = .sl s (l.map c) k) (hl : bnd fr lo = some lo') (hh : bnd fr hi = some hi') (hmx : bnd fr mx = some mx') (hs : slc l (bd0 lo' 0) (bd0 hi' l.length) = some m)
  (hm : mx'.isSome = true → hi'.isSome = true ∧ bd0 hi' l.length = bd0 mx' l.length) : OpS P ⟨dst, .slice t x lo hi mx, ty, pos, after, guard⟩ fr H (Det (.sl s (m.map c) (tkS k hi' mx' l.length)) H) := by
 obtain ⟨h0, h1, h2, rfl⟩ := slc_some hs
 refine opS_slice hl hh hmx ?_
 refine ⟨fun h => (hm h).1, ?_⟩
 simp only [hu, hti, hx, List.length_map, true_and]
 have e1 : bd0 hi' (l.length : Int) ≤ bd0 mx' (l.length : Int) ∧ bd0 mx' (l.length : Int) ≤ l.length := by
  cases mx' with
  | none => exact ⟨h2, Int.le_refl _⟩
  | some q => have := (hm rfl).2; omega
 refine ⟨h0, h1, e1.1, e1.2, ?_, rfl⟩
 rw [List.map_drop, List.map_take]
 exact .refl _
theorem o_app1 {t u e : TypeId} {x y : Operand} {s b : Nat} {z : Value} {l l2 m : List α} {H1 : Mem} (hx : aev fr x = .sl s (l.map c) .ex ∨ (aev fr x = .sc (.slice none 0 0) ∧ l = [])) (hy : srcP s (aev fr y) H = some (l2.map c))
  (hu : P.underlying t = some (.slice e)) (hti : tinf P e = some (s, b, some z)) (hz : (zeroCs z).length = s) (hss : sliceStr P u = true) (happ : app b l l2 = some m) (hM : H1 = H ++ [.tok]) :
  OpS P ⟨dst, .call ⟨.builtin .append, #[x, y], #[t, u]⟩, ty, pos, after, guard⟩ fr H (Det (.sl s (m.map c) (.tk H.length)) H1) := by
 obtain ⟨h1, h2, rfl⟩ := app_some happ
 refine opS_append 1 ⟨hss, ?_⟩
 simp only [hu, hti, hy]
 refine ⟨hz, ?_⟩
 rcases hx with hx | ⟨hx, rfl⟩
 ·simp only [hx, List.length_map]
  refine ⟨trivial, h1, h2, fun h => by omega, ?_, hM.symm⟩
  rw [List.map_append]; exact .refl _
 ·simp only [hx, List.length_map]
  simp only [List.length_nil, Nat.zero_add] at h1 h2
  exact ⟨h1, h2, .refl _, hM.symm⟩
theorem o_appT {t u e : TypeId} {x y : Operand} {s b tk : Nat} {z : Value} {l l2 m : List α} {H1 : Mem} (hx : aev fr x = .sl s (l.map c) (.tk tk)) (hk : H[tk]? = some .tok) (hy : srcP s (aev fr y) H = some (l2.map c))
  (hu : P.underlying t = some (.slice e)) (hti : tinf P e = some (s, b, some z)) (hz : (zeroCs z).length = s) (hss : sliceStr P u = true) (happ : app b l l2 = some m) (hM : H1 = H.set tk .dead ++ [.tok]) :
  OpS P ⟨dst, .call ⟨.builtin .append, #[x, y], #[t, u]⟩, ty, pos, after, guard⟩ fr H (Det (.sl s (m.map c) (.tk H.length)) H1) := by
 obtain ⟨h1, h2, rfl⟩ := app_some happ
 refine opS_append 1 ⟨hss, ?_⟩
 simp only [hu, hti, hy, hx, List.length_map]
 refine ⟨hz, trivial, hk, h1, h2, ?_, hM.symm⟩
 rw [List.map_append]; exact .refl _
theorem o_app2 {t u e : TypeId} {x y : Operand} {s b : Nat} {z : Value} {l2 m : List α} {H1 : Mem} (hx : aev fr x = .sl s [] .ex ∨ aev fr x = .sc (.slice none 0 0)) (hy : srcP s (aev fr y) H = some (l2.map c))
  (hu : P.underlying t = some (.slice e)) (hti : tinf P e = some (s, b, some z)) (hz : (zeroCs z).length = s) (hss : sliceStr P u = true) (happ : app b [] l2 = some m) (hM : H1 = H ++ [.cells ((m.map c).flatten.map PV.av)]) :
  OpS P ⟨dst, .call ⟨.builtin .append, #[x, y], #[t, u]⟩, ty, pos, after, guard⟩ fr H (Det (.hs H.length 0 m.length m.length s) H1) := by
 obtain ⟨h1, h2, rfl⟩ := app_some happ
 simp only [List.length_nil, Nat.zero_add] at h1 h2
 refine opS_append 2 ⟨hss, ?_⟩
 simp only [hu, hti, hy]
 refine ⟨hz, ?_⟩
 have key : aFresh 2 s (m.map c) H (Det (.hs H.length 0 m.length m.length s) H1) := by
  show Det _ H1 (.hs H.length 0 (m.map c).length (m.map c).length s) (H ++ [.cells ((m.map c).flatten.map PV.av)])
  rw [List.length_map]
  exact ⟨.refl _, hM.symm⟩
 rcases hx with hx | hx
 ·simp only [hx, List.length_map, List.length_nil, Nat.zero_add]
  exact ⟨trivial, h1, h2, fun h => .inr trivial, key⟩
 ·simp only [hx, List.length_map]
  exact ⟨h1, h2, key⟩
theorem src_sl {s : Nat} {l : List α} {k : Tk} {x : AV} (h : x = .sl s (l.map c) k) : srcP s x H = some (l.map c) := by subst h; simp only [srcP, if_true]
theorem azeros_rep {zc : List AV} {cs : List PV} (h : zc = cs.map PV.av) (n : Nat) : azeros zc n = (List.replicate n cs).flatten.map PV.av := by
 induction n with
 | zero => rfl
 | succ n ih => rw [azeros, ih, List.replicate_succ, List.flatten_cons, List.map_append, h]
end
section
variable {α : Type} {c : α → List PV} {z : Nat}
theorem flat_len (hz : ∀ a, (c a).length = z) (l : List α) : ((l.map c).flatten.map PV.av).length = l.length * z := by
 rw [List.length_map, flatten_length (z := z) (by intro e he; obtain ⟨a, _, rfl⟩ := List.mem_map.1 he; exact hz a), List.length_map]
theorem flat_get (hz : ∀ a, (c a).length = z) : ∀ {l : List α} {i : Nat} {a : α}, l[i]? = some a → ∀ {j : Nat}, j < z → ((l.map c).flatten)[i * z + j]? = (c a)[j]?
 | [], i, a, h, j, hj => by simp at h
 | b :: l, 0, a, h, j, hj => by
  simp at h; subst h
  rw [List.map_cons, List.flatten_cons, Nat.zero_mul, Nat.zero_add, List.getElem?_append_left (by rw [hz]; exact hj)]
 | b :: l, i + 1, a, h, j, hj => by
  rw [List.getElem?_cons_succ] at h
  rw [List.map_cons, List.flatten_cons, List.getElem?_append_right (by rw [hz, Nat.add_mul]; omega), hz, show (i + 1) * z + j - z = i * z + j by rw [Nat.add_mul]; omega]
  exact flat_get hz h hj
theorem flat_set (hz : ∀ a, (c a).length = z) : ∀ {l : List α} {i : Nat} {a a' : α} {j : Nat} {p : PV}, l[i]? = some a → j < z → c a' = (c a).set j p → ((l.map c).flatten).set (i * z + j) p = ((l.set i a').map c).flatten
 | [], i, a, a', j, p, h, hj, hc => by simp at h
 | b :: l, 0, a, a', j, p, h, hj, hc => by
  simp at h; subst h
  rw [List.map_cons, List.flatten_cons, List.set_cons_zero, List.map_cons, List.flatten_cons, hc, Nat.zero_mul, Nat.zero_add, List.set_append_left _ _ (by rw [hz]; exact hj)]
 | b :: l, i + 1, a, a', j, p, h, hj, hc => by
  rw [List.getElem?_cons_succ] at h
  rw [List.map_cons, List.flatten_cons, List.set_cons_succ, List.map_cons, List.flatten_cons, List.set_append_right _ _ (by rw [hz, Nat.add_mul]; omega), hz, show (i + 1) * z + j - z = i * z + j by rw [Nat.add_mul]; omega, flat_set hz h hj hc]
theorem setAt_mid (C : List AV) : ∀ (A B vs : List AV), B.length = vs.length → setAt (A ++ (B ++ C)) A.length vs = A ++ (vs ++ C)
 | A, [], [], _ => rfl
 | A, b :: B, v :: vs, h => by
  have e1 : (A ++ (b :: B ++ C)).set A.length v = (A ++ [v]) ++ (B ++ C) := by
   rw [List.set_append_right _ _ (Nat.le_refl _), Nat.sub_self]; simp
  have e2 : A.length + 1 = (A ++ [v]).length := by simp
  rw [setAt, e1, e2, setAt_mid C (A ++ [v]) B vs (by simpa using h)]
  simp
 | A, [], v :: vs, h => by simp at h
 | A, b :: B, [], h => by simp at h
theorem flat_split (l : List α) {i : Nat} {a : α} (h : l[i]? = some a) : (l.map c).flatten.map PV.av = ((l.take i).map c).flatten.map PV.av ++ ((c a).map PV.av ++ ((l.drop (i + 1)).map c).flatten.map PV.av) := by
 have hi := lt_of_get h
 have e : l = l.take i ++ a :: l.drop (i + 1) := by
  rw [List.getElem?_eq_getElem hi] at h
  cases h
  rw [List.getElem_cons_drop hi, List.take_append_drop]
 conv => lhs; rw [e]
 simp
theorem flat_setAt (hz : ∀ a, (c a).length = z) {l : List α} {i : Nat} {a a' : α} (h : l[i]? = some a) : setAt ((l.map c).flatten.map PV.av) (i * z) ((c a').map PV.av) = ((l.set i a').map c).flatten.map PV.av := by
 have hi := lt_of_get h
 have e1 : (l.set i a')[i]? = some a' := List.getElem?_set_self hi
 rw [flat_split l h, flat_split (l.set i a') e1, List.take_set_of_le (Nat.le_refl _), List.drop_set_of_lt (by omega)]
 have e2 : i * z = (((l.take i).map c).flatten.map PV.av).length := by rw [flat_len hz, List.length_take]; congr 1; omega
 rw [e2, setAt_mid _ _ _ _ (by simp [hz])]
theorem o_indexAddrO {t e : TypeId} {x y : Operand} {s b : Nat} {zz : Option Value} {l : List α} {id n mc : Nat} {kk : IntKind} {i : Int} {a : α} (hu : P.underlying t = some (.slice e)) (hti : tinf P e = some (s, b, zz)) (hx : aev fr x = .hs id 0 n mc s)
  (hy : aev fr y = .sc (.int kk i)) (hn : l.length = n) (hi : idx l i = some a) : OpS P ⟨dst, .indexAddr t x y, ty, pos, after, guard⟩ fr H (Det (.pt id (i.toNat * s)) H) := by
 obtain ⟨h0, h1⟩ := idx_lt hi
 have := o_indexAddrH (P := P) (fr := fr) (H := H) (dst := dst) (ty := ty) (pos := pos) (after := after) (guard := guard) hu hti hx hy h0 (by rw [← hn]; exact h1)
 rw [Nat.zero_add] at this
 exact this
theorem o_loadO {t : TypeId} {x : Operand} {q : Nat × Nat × Option Value} {id off j : Nat} {l : List α} {i : Int} {a : α} {p : PV} {r : AV} (hag : aggT P t = some false) (hti : tinf P t = some q) (hx : aev fr x = .pt id off) (ho : off = i.toNat * z + j)
  (hm : H[id]? = some (.cells ((l.map c).flatten.map PV.av))) (hz : ∀ a, (c a).length = z) (hi : idx l i = some a) (hp : (c a)[j]? = some p) (h : AVLe p.av r) : OpS P ⟨dst, .load t x, ty, pos, after, guard⟩ fr H (Det r H) :=
 o_loadP hag hti hx hm (by
  rw [ho, List.getElem?_map, flat_get hz (idx_some hi).2 (by have := lt_of_get hp; rw [hz] at this; exact this), hp]; rfl) h
theorem OpS.memle {o : Oper} {r : AV} {H1 : Mem} {id : Nat} {cs cs' : List AV} (h : OpS P o fr H (Det r H1)) (hid : H1[id]? = some (.cells cs)) (hl : ALe cs cs') : OpS P o fr H (Det r (H1.set id (.cells cs'))) := fun g w ev h1 h2 =>
 Ls.mono (fun v w' s => by
  obtain ⟨r', H', g', ⟨k1, rfl⟩, hv, hm, he, hn⟩ := s
  exact ⟨r', _, g', ⟨k1, rfl⟩, by rw [List.length_set]; exact hv, hm.le hid hl, he, by rw [List.length_set]; exact hn⟩) (h g w ev h1 h2)
theorem ALe.set {cs : List AV} {v v' : AV} (h : AVLe v v') : ∀ (k : Nat), ALe (cs.set k v) (cs.set k v') := by
 induction cs with
 | nil => intro k; exact trivial
 | cons a cs ih =>
  intro k
  cases k with
  | zero => exact ⟨h, .refl _⟩
  | succ k => exact ⟨.refl _, ih k⟩
theorem o_storeO {t : TypeId} {x y : Operand} {b : Nat} {zz : Option Value} {id off j : Nat} {l m : List α} {i : Int} {a a' : α} {p : PV} {v : AV} {H1 : Mem} (hti : tinf P t = some (1, b, zz)) (hx : aev fr x = .pt id off) (ho : off = i.toNat * z + j) (hy : aev fr y = v)
  (hm : H[id]? = some (.cells ((l.map c).flatten.map PV.av))) (hz : ∀ a, (c a).length = z) (hi : idx l i = some a) (hj : j < z) (hs : v.cells = [v]) (hf : v.flat = true) (hce : v.cellish = true) (hle : AVLe v p.av) (hc : c a' = (c a).set j p)
  (hu : updL l i a' = some m) (hM : H1 = H.set id (.cells ((m.map c).flatten.map PV.av))) :
  OpS P ⟨dst, .store t x y, ty, pos, after, guard⟩ fr H (Det undefA H1) := by
 obtain ⟨_, _, rfl⟩ := updL_some hu
 have h1 := (idx_some hi).2
 have hlt := lt_of_get h1
 have hmul := Nat.mul_le_mul_right z (show i.toNat + 1 ≤ l.length by omega)
 rw [Nat.add_mul, Nat.one_mul] at hmul
 have base := o_store (P := P) (fr := fr) (H := H) (dst := dst) (ty := ty) (pos := pos) (after := after) (guard := guard) (t := t) (x := x) (y := y) (H1 := H.set id (.cells (((l.map c).flatten.map PV.av).set off v))) (v := v) hti hx hy hm (by decide) hf (by rw [hs]; rfl)
  (by rw [hs]; simp [hce]) (by rw [flat_len hz, ho]; omega) (by rw [hs]; rfl) rfl
 have := base.memle (id := id) (cs' := ((l.map c).flatten.map PV.av).set off p.av) (by rw [List.getElem?_set_self (lt_of_get hm)]) (ALe.set hle _)
 rw [List.set_set] at this
 rw [hM]
 have e : ((l.map c).flatten.map PV.av).set off p.av = ((l.set i.toNat a').map c).flatten.map PV.av := by
  rw [← flat_set hz h1 hj hc, ho, List.map_set]
 rw [e] at this
 exact this
theorem o_storeOA {t : TypeId} {x y : Operand} {b : Nat} {zz : Option Value} {id off : Nat} {l m : List α} {i : Int} {a a' : α} {H1 : Mem} (hti : tinf P t = some (z, b, zz)) (hx : aev fr x = .pt id off) (ho : off = i.toNat * z) (h0 : z ≠ 0)
  (hy : (aev fr y).cells = (c a').map PV.av) (hf : (aev fr y).flat = true) (hce : ((c a').map PV.av).all AV.cellish = true)
  (hm : H[id]? = some (.cells ((l.map c).flatten.map PV.av))) (hz : ∀ a, (c a).length = z) (hi : idx l i = some a)
  (hu : updL l i a' = some m) (hM : H1 = H.set id (.cells ((m.map c).flatten.map PV.av))) :
  OpS P ⟨dst, .store t x y, ty, pos, after, guard⟩ fr H (Det undefA H1) := by
 obtain ⟨_, _, rfl⟩ := updL_some hu
 have h1 := (idx_some hi).2
 have hlt := lt_of_get h1
 have hmul := Nat.mul_le_mul_right z (show i.toNat + 1 ≤ l.length by omega)
 rw [Nat.add_mul, Nat.one_mul] at hmul
 exact o_store hti hx rfl hm h0 hf (by rw [hy, List.length_map, hz]) (by rw [hy]; exact hce) (by rw [flat_len hz, ho]; omega) (by rw [hy, ho, flat_setAt hz h1]) hM
theorem mapM_flat (hp : ∀ a, ((c a).map PV.av).mapM AV.pv = some (c a)) (l : List α) : ((l.map c).flatten.map PV.av).mapM AV.pv = some (l.map c).flatten := by
 induction l with
 | nil => rfl
 | cons a l ih => rw [List.map_cons, List.flatten_cons, List.map_append, List.mapM_append, hp, ih]; rfl
theorem chunk_flat (hz : ∀ a, (c a).length = z) (l : List α) : chunk z l.length (((l.map c).flatten.drop 0).take (l.length * z)) = l.map c := by
 rw [List.drop_zero, List.take_of_length_le (by have := flat_len hz l; rw [List.length_map] at this; omega)]
 induction l with
 | nil => rfl
 | cons a l ih => rw [List.length_cons, chunk, List.map_cons, List.flatten_cons, List.take_left' (hz a), List.drop_left' (hz a), ih]
def FrzL (fr : Frm) (id n s : Nat) (rows : List (List PV)) : List (Nat × AV) → Prop
 | [] => True
 | (d, v) :: q => (AVLe (fr d) v ∨ (∃ mc, fr d = .hs id 0 n mc s) ∧ v = .sl s rows .no) ∧ FrzL fr id n s rows q
theorem Reb.frz {N n0 : Nat} {H : Mem} {id n : Nat} {l : List α} {fl : List (Nat × AV)} (hz : ∀ a, (c a).length = z) (hp : ∀ a, ((c a).map PV.av).mapM AV.pv = some (c a)) (hid : H[id]? = some (.cells ((l.map c).flatten.map PV.av))) (hn : l.length = n)
  (h : FrzL fr id n z (l.map c) fl) : Reb N n0 fr (Frm.of fl) H (H.set id .dead) := fun g w tmps hn0 hf hm => by
 subst hn
 obtain ⟨hm1, hg1⟩ := hm.freeze hid
 refine ⟨_, ⟨hf.size, ?_⟩, hm1, ⟨⟨hg1.ro, fun i hi => hg1.mu i (by omega)⟩, fun b _ ho => ⟨ho, rfl⟩, Nat.le_refl _, rfl, rfl, rfl⟩, by simpa using hn0⟩
 intro t
 have hlen : (H.set id Ent.dead).length = H.length := by simp
 rw [hlen]
 have hv := hf.vr t
 generalize tmps.getD t undef = u at hv
 induction fl with
 | nil => exact .any _
 | cons p r ih =>
  obtain ⟨d, v⟩ := p
  obtain ⟨h1, h2⟩ := h
  by_cases e : t = d
  ·subst e
   simp only [Frm.of, if_true]
   rcases h1 with h1 | ⟨⟨mc, h1⟩, rfl⟩
   ·exact h1 _ _ _ (hv.mono hg1 (Nat.le_refl _))
   ·rw [h1] at hv
    generalize hq : l.length = q at hv
    cases hv with
    | hs _ _ _ _ _ cap hidl hll hmc hcap =>
     have := freeze_row (n := H.length) (off := 0) (len := q) (s := z) (cap := cap) hm hid (mapM_flat hp l) (by rw [flat_len hz, hq]; omega) (Nat.le_trans hll hmc)
     rw [← hq, chunk_flat hz] at this
     rw [← hq]; exact this
    | hn _ _ _ a hidl =>
     have : l = [] := List.eq_nil_of_length_eq_zero hq
     subst this
     cases a with
     | none => exact .nil z .no fun t e => by cases e
     | some a => exact VR.sl z [] .no a 0 (fun _ => undef) (.inl rfl) (Nat.le_refl _) (fun e he => by cases he) (fun k p hk => by simp at hk) trivial
  ·simp only [Frm.of, if_neg e]
   exact ih h2
end
theorem o_buildSlice0 {t e : TypeId} {len : Nat} {ps : Array (Nat × Operand)} {s b : Nat} {z : Value} {cs : List AV} {pcs : List PV} {r : AV} (hu : P.underlying t = some (.slice e)) (hti : tinf P e = some (s, b, some z)) (hz : (zeroCs z).length = s)
  (hn : len * s ≤ 16777216) (hf : afill (fun i => some (i * s, s)) (azeros (zeroCs z) len) (ps.toList.map fun x => (x.1, aev fr x.2)) = some cs) (hp : cs.mapM AV.pv = some pcs) (hr : AVLe (.sl s (chunk s len pcs) .ex) r) :
  OpS P ⟨dst, .buildSlice t len ps, ty, pos, after, guard⟩ fr H (Det r H) := opS_buildSlice 0 (by simp only [aBuildSlice, hu, hti, hf, hp]; exact ⟨hz, hn, hr, rfl⟩)
theorem o_buildSlice2 {t e : TypeId} {len : Nat} {ps : Array (Nat × Operand)} {s b : Nat} {z : Value} {cs : List AV} {H1 : Mem} (hu : P.underlying t = some (.slice e)) (hti : tinf P e = some (s, b, some z)) (hz : (zeroCs z).length = s)
  (hn : len * s ≤ 16777216) (hf : afill (fun i => some (i * s, s)) (azeros (zeroCs z) len) (ps.toList.map fun x => (x.1, aev fr x.2)) = some cs) (hM : H1 = H ++ [.cells cs]) :
  OpS P ⟨dst, .buildSlice t len ps, ty, pos, after, guard⟩ fr H (Det (.hs H.length 0 len len s) H1) := opS_buildSlice 2 (by simp only [aBuildSlice, hu, hti, hf]; exact ⟨hz, hn, .refl _, hM.symm⟩)
theorem o_build {t : TypeId} {ps : Array (Nat × Operand)} {fs : Array Field} {s b : Nat} {z : Value} {pl : Nat → Option (Nat × Nat)} {cs : List AV} {r : AV} (hti : tinf P t = some (s, b, some z)) (hu : P.underlying t = some (.struct fs))
  (hpl : ∀ i, fplace P fs i = pl i) (hall : fs.all (fun f => (tinf P f.type).isSome) = true) (hf : afill pl (zeroCs z) (ps.toList.map fun x => (x.1, aev fr x.2)) = some cs) (hr : AVLe (.ag cs) r) :
  OpS P ⟨dst, .build t ps, ty, pos, after, guard⟩ fr H (Det r H) := opS_build (by
 have : fplace P fs = pl := funext hpl
 simp only [aBuild, hti, hu, this, hf]
 exact ⟨hall, hr, rfl⟩)
theorem o_call {f : FuncId} {xs : Array Operand} {ats : Array TypeId} {args : List AV} {r0 r : AV} {H1 : Mem} (hc : ACalls P f args H fun r' H' => r' = r0 ∧ H' = H1) (ha : ALe (xs.toList.map (aev fr)) args) (hr : AVLe r0 r) :
  OpS P ⟨dst, .call ⟨.value (.func f), xs, ats⟩, ty, pos, after, guard⟩ fr H (Det r H1) := opS_call ((ACalls.le ha hc).mono fun _ _ ⟨e1, e2⟩ => by subst e1 e2; exact ⟨hr, rfl⟩)
theorem o_callv {f : FuncId} {t : Nat} {first caps : List AV} {xs : Array Operand} {ats : Array TypeId} {args : List AV} {r0 r : AV} {H1 : Mem} (ht : fr t = .fn (.func f) first caps) (hc : ACalls P f args H fun r' H' => r' = r0 ∧ H' = H1)
  (ha : ALe (first ++ xs.toList.map (aev fr) ++ caps) args) (hr : AVLe r0 r) :
  OpS P ⟨dst, .call ⟨.value (.tmp t), xs, ats⟩, ty, pos, after, guard⟩ fr H (Det r H1) := opS_callv ht ((ACalls.le ha hc).mono fun _ _ ⟨e1, e2⟩ => by subst e1 e2; exact ⟨hr, rfl⟩)
end
theorem reb_done {P : Program} {fn : Func} {N n0 : Nat} {fr fr0 : Frm} {M M0 : Mem} {R : AV → Mem → Prop} (h : Reb N n0 fr fr0 M M0) (h2 : ∃ fr1 H', Reb N n0 fr0 fr1 M0 H' ∧ resS P fn fr1 H' R) :
  ∃ fr1 H', Reb N n0 fr fr1 M H' ∧ resS P fn fr1 H' R := by
 obtain ⟨fr1, H', a, b⟩ := h2
 exact ⟨fr1, H', h.trans a, b⟩
theorem done_tmp {P : Program} {fn : Func} {N n0 : Nat} {t : Tmp} {fr : Frm} {M H1 : Mem} {r0 : AV} (hr : fn.results = #[.tmp t]) (h : AVLe (fr t) r0) (hp : H1 <+: M) :
  ∃ fr1 H', Reb N n0 fr fr1 M H' ∧ resS P fn fr1 H' fun r M => AVLe r r0 ∧ H1 <+: M := fin_here (resS_tmp hr ⟨h, hp⟩)
theorem done_none {P : Program} {fn : Func} {N n0 : Nat} {fr : Frm} {M H1 : Mem} (hr : fn.results = #[]) (hp : H1 <+: M) :
  ∃ fr1 H', Reb N n0 fr fr1 M H' ∧ resS P fn fr1 H' fun r M => AVLe r (.tp []) ∧ H1 <+: M := fin_here (resS_none hr ⟨.refl _, hp⟩)
theorem done_list {P : Program} {fn : Func} {N n0 : Nat} {rs : List ResultVar} {avs : List AV} {fr : Frm} {M H1 : Mem} {r0 : AV} (hr : fn.results = rs.toArray) (hl : avs.length ≠ 1) (ha : aRess P fr M rs avs) (h : AVLe (.tp avs) r0) (hp : H1 <+: M) :
  ∃ fr1 H', Reb N n0 fr fr1 M H' ∧ resS P fn fr1 H' fun r M => AVLe r r0 ∧ H1 <+: M := fin_here (resS_list hr hl ha ⟨h, hp⟩)
theorem done_one {P : Program} {fn : Func} {N n0 : Nat} {rv : ResultVar} {r : AV} {fr : Frm} {M H1 : Mem} {r0 : AV} (hr : fn.results = #[rv]) (ha : aRess P fr M [rv] [r]) (h : AVLe r r0) (hp : H1 <+: M) :
  ∃ fr1 H', Reb N n0 fr fr1 M H' ∧ resS P fn fr1 H' fun r M => AVLe r r0 ∧ H1 <+: M := fin_here (resS_one hr ha ⟨h, hp⟩)
section
variable {P : Program} {fr : Frm} {M : Mem} {rs : List ResultVar} {asl : List AV} {r : AV}
theorem ar_nil : aRess P fr M [] [] := trivial
theorem ar_tmp {t : Nat} (h : fr t = r) (h2 : aRess P fr M rs asl) : aRess P fr M (.tmp t :: rs) (r :: asl) := ⟨h, h2⟩
theorem ar_cellA {p id off s b : Nat} {ty : TypeId} {z : Option Value} {cs : List AV} (hag : aggT P ty = some true) (hti : tinf P ty = some (s, b, z)) (hx : fr p = .pt id off) (hm : M[id]? = some (.cells cs)) (hl : off + s ≤ cs.length)
  (hc : .ag ((cs.drop off).take s) = r) (h2 : aRess P fr M rs asl) : aRess P fr M (.cell p ty :: rs) (r :: asl) := ⟨by simp only [aLoad, hag, hti, hx, hm]; exact ⟨hl, hc⟩, h2⟩
end
end Go.Proofs.YtaaamoicidfgcaaGreat.Am
namespace Go.Proofs.YtaaamoicidfgcaaGreat.Am
open Go
set_option linter.unusedVariables false
section
variable {P : Program} {fr : Frm} {H : Mem} {dst : Option Nat} {ty : TypeId} {pos : String} {after : Array Edge} {guard : Option (Nat × Bool)}
theorem OpsS_nilT {ops : Array Oper} {rest : List Oper} {K : Frm → Mem → Prop} {t t' e : TypeId} {x y : Operand} {z : Nat} {es : List (List PV)} {k : Tk} (hg : agd ops fr ⟨dst, .binOp .eql t x y t', ty, pos, after, guard⟩ = some true)
  (hu : P.underlying t = some (.slice e)) (hx : aev fr x = .sl z es k) (hy : aev fr y = .sc (.slice none 0 0)) (h : ∀ b : Bool, (b = true → es = []) → OpsS P ops rest (fr.put dst (.sc (.bool b))) H K) :
  OpsS P ops (⟨dst, .binOp .eql t x y t', ty, pos, after, guard⟩ :: rest) fr H K := by
 simp only [OpsS, hg]
 exact opS_isNil hx hy (by unfold aNil; rw [hu]; exact fun b hb => h b hb)
theorem o_slice3 {α : Type} {c : α → List PV} {t e : TypeId} {x : Operand} {lo hi mx : Option Operand} {s b : Nat} {z : Option Value} {l m : List α} {k : Tk} {lo' : Option (IntKind × Int)} {q q' : IntKind × Int} (hu : P.underlying t = some (.slice e)) (hti : tinf P e = some (s, b, z))
  (hx : aev fr x = .sl s (l.map c) k) (hl : bnd fr lo = some lo') (hh : bnd fr hi = some (some q)) (hmx : bnd fr mx = some (some q')) (hq : q'.2 = q.2) (hs : slc l (bd0 lo' 0) q.2 = some m) :
  OpS P ⟨dst, .slice t x lo hi mx, ty, pos, after, guard⟩ fr H (Det (.sl s (m.map c) .ex) H) := by
 have := o_slice (P := P) (fr := fr) (H := H) (dst := dst) (ty := ty) (pos := pos) (after := after) (guard := guard) (c := c) (hi' := some q) (mx' := some q') hu hti hx hl hh hmx hs (fun _ => ⟨rfl, hq.symm⟩)
 have e : tkS k (some q) (some q') l.length = .ex := by simp [tkS, bd0, hq]
 rw [e] at this
 exact this
theorem o_bytesC {s e : TypeId} {x : Operand} {id n mc : Nat} {l : List Int} {cs : List AV} {H1 : Mem} (hs : P.underlying s = some (.slice e)) (he : P.underlying e = some (.int .u8)) (hx : aev fr x = .hs id 0 n mc 1) (hn : l.length = n) (h0 : n ≠ 0)
  (hm : H[id]? = some (.cells cs)) (hc : cs = (l.map c_u8).flatten.map PV.av) (hM : H1 = H.set id .dead) :
  OpS P ⟨dst, .convert s s x, ty, pos, after, guard⟩ fr H (Det (.sl 1 (l.map c_u8) .no) H1) := opS_bytes 0 (by
 subst hc hn
 simp only [aBytes, hs, he, hx, hm]
 have hlen : ((l.map c_u8).flatten.map PV.av).length = l.length := by rw [flat_len (z := 1) (fun _ => rfl)]; omega
 refine ⟨trivial, trivial, h0, by rw [hlen]; omega, ?_⟩
 rw [mapM_flat (fun _ => rfl)]
 have e2 : chunk 1 l.length (((l.map c_u8).flatten.drop 0).take (l.length * 1)) = l.map c_u8 := chunk_flat (c := c_u8) (z := 1) (fun _ => rfl) l
 simp only [e2]
 exact ⟨.refl _, hM.symm⟩)
end
theorem Bd.wide {n m : Nat} (h : n ≤ m) {a : AV} (hb : Bd n a) : Bd m a := by
 induction hb with
 | any => exact .any
 | sc v => exact .sc v
 | sl z es k hk => exact .sl z es k fun t e => Nat.lt_of_lt_of_le (hk t e) h
 | ag cs _ ih => exact .ag cs ih
 | tp cs _ ih => exact .tp cs ih
 | pt id off hid => exact .pt id off (by omega)
 | ep cs => exact .ep cs
 | hs id off len mc s hid => exact .hs id off len mc s (by omega)
 | mp id hid => exact .mp id (by omega)
 | fn f fs cs _ _ i1 i2 => exact .fn f fs cs i1 i2
theorem Bd.emono {n m : Nat} (h : n ≤ m) {e : Ent} (hb : e.Bd n) : e.Bd m := by
 cases e with
 | dead => trivial
 | tok => trivial
 | cells cs => exact fun i c hc => (hb i c hc).wide h
 | map es => exact fun k a hi => (hb k a hi).wide h
 | mpi es ents clock => exact fun k a hi => (hb k a hi).wide h
 | itr mid since seen stepped => exact Nat.lt_of_lt_of_le hb h
 | lit vs => trivial
 | tr cs => exact fun i c hc => (hb i c hc).mono fun _ ha => ha.wide h
theorem MBd.new {H : Mem} {cs : List AV} (hH : MBd H) (hc : cs.all AV.clo1 = true) : MBd (H ++ [.cells cs]) := fun id e he => by
 rcases get_snoc he with he | ⟨rfl, rfl⟩
 ·exact Bd.emono (by simp) (hH id e he)
 ·exact fun i c hc' => AV.clo1_bd (List.all_eq_true.1 hc c (List.mem_of_getElem? hc'))
theorem clo1_av (p : PV) : p.av.clo1 = true := by cases p <;> rfl
theorem MBd.newO {H : Mem} {ps : List PV} (hH : MBd H) : MBd (H ++ [.cells (ps.map PV.av)]) := hH.new (by rw [List.all_map, List.all_eq_true]; exact fun p _ => clo1_av p)
theorem MBd.setO {H : Mem} {p : Nat} {ps : List PV} (hH : MBd H) : MBd (H.set p (.cells (ps.map PV.av))) := hH.set (by rw [List.all_map, List.all_eq_true]; exact fun p _ => clo1_av p)
theorem AVLe.hsn {α : Type} {e n z : Nat} {l : List α} (h : l.length = n) : AVLe (.hs e 0 n n z) (.hs e 0 l.length l.length z) := by subst h; exact .refl _
theorem Bd_newO {n mc z : Nat} (H : Mem) (x : Ent) : Bd (H ++ [x]).length (.hs H.length 0 n mc z) := .hs _ _ _ _ _ (by simp)
theorem AVLt.hn (n z : Nat) : AVLt n (.sc (.slice none 0 0)) (.hs n 0 0 0 z) := fun _ _ _ hn h => by cases h; exact .hn n 0 z none hn
theorem Reb.none {N n0 : Nat} {fr : Frm} {H : Mem} {l : List (Nat × AV)} (h : FtL H.length fr l) : Reb N n0 fr (Frm.of l) H (H ++ [.cells []]) := fun g w tmps hl hf hm => by
 obtain ⟨m1, m2⟩ := hm.push_none
 refine ⟨_, ⟨hf.size, ?_⟩, m1, ⟨⟨m2.gle.ro, fun i hi => m2.gle.mu i (by omega)⟩, m2.un, m2.size, m2.os, m2.tape, m2.output⟩, by simp; omega⟩
 intro t
 have hfr := (hf.mono m2.gle (by simp : H.length ≤ (H ++ [Ent.cells []]).length)).vr t
 generalize tmps.getD t undef = u at hfr
 induction l with
 | nil => exact .any _
 | cons p r ih =>
  obtain ⟨d, v⟩ := p
  by_cases e : t = d
  ·subst e
   simp only [Frm.of, if_true]
   exact h.1 _ _ _ (by simp) hfr
  ·simp only [Frm.of, if_neg e]
   exact ih h.2
theorem MR.retok {g : Gh} {H : Mem} {w : World} {id b o l : Nat} (hm : MR g H w) (hd : H[id]? = some .dead) (hob : g.ow b = some id) (hblk : Blk w b l) (hro : ∀ o' v, g.ro b o' = some v → o' < o) :
  MR (g.addE H.length ⟨b, o, l⟩) (H ++ [.tok]) w ∧ Ev H.length g w (g.addE H.length ⟨b, o, l⟩) w := by
 have hgle : Gle H.length g (g.addE H.length ⟨b, o, l⟩) := ⟨fun _ _ _ h => h, fun i hi => by simp only [Gh.addE]; rw [if_neg (by omega)]⟩
 refine ⟨⟨hm.ro, fun id' x hx => ?_, fun b' id' ho => ?_⟩, ⟨hgle, fun b' hb' ho => ⟨?_, rfl⟩, Nat.le_refl _, rfl, rfl, rfl⟩⟩
 ·rcases get_snoc hx with hx | ⟨rfl, rfl⟩
  ·have hid := lt_of_get hx
   have he := hm.ent id' x hx
   rcases he.own hid with hfr' | hown
   ·exact hfr' _ _ _ hgle
   ·by_cases hbi : id' = id
    ·subst hbi
     rw [hd] at hx; cases hx; trivial
    ·refine he.keep hid hgle (by simp) fun b' hown => ⟨?_, fun _ => rfl, rfl⟩
     have hbb : b' ≠ b := fun hbb => by rw [hbb, hob] at hown; cases hown; exact hbi rfl
     simp only [Gh.addE]; rw [if_neg hbb]; exact hown
  ·simp only [EntR, Gh.addE, if_true]
   exact .inr ⟨trivial, hblk, hro⟩
 ·simp only [Gh.addE] at ho
  split at ho
  ·rename_i e; subst e; cases ho
   exact ⟨(hm.ow _ _ hob).1, by simp⟩
  ·have := hm.ow b' id' ho
   exact ⟨this.1, by simp; omega⟩
 ·simp only [Gh.addE]
  rw [if_neg (fun e => by rw [e, hob] at ho; cases ho)]; exact ho
theorem VR.withT {g g2 : Gh} {n m z len cap T : Nat} {rows : List (List PV)} {a : Addr} (h : VR g n (.sl z rows .no) (.slice (some a) len cap)) (hro : ∀ b o v, g.ro b o = some v → g2.ro b o = some v) (ht : T < m)
  (hmu : cap = len ∨ g2.mu T = ⟨a.block, a.off + len * z, a.off + cap * z⟩) : VR g2 m (.sl z rows (.tk T)) (.slice (some a) len cap) := by
 cases h with
 | sl _ _ _ _ _ f q1 q2 q3 q4 q5 => exact .sl z _ _ _ cap f q1 q2 q3 (q4.mono hro) ⟨ht, hmu⟩
theorem Reb.frzT {α : Type} {c : α → List PV} {z : Nat} {N n0 : Nat} {fr : Frm} {H : Mem} {id n mc t : Nat} {l : List α} (hz : ∀ a, (c a).length = z) (hp : ∀ a, ((c a).map PV.av).mapM AV.pv = some (c a)) (hid : H[id]? = some (.cells ((l.map c).flatten.map PV.av))) (hn : l.length = n)
  (ht : fr t = .hs id 0 n mc z) : Reb N n0 fr (Frm.of [(t, .sl z (l.map c) (.tk H.length))]) H (H.set id .dead ++ [.tok]) := fun g w tmps hn0 hf hm => by
 subst hn
 have hlt := lt_of_get hid
 have hlen : (H.set id Ent.dead).length = H.length := by simp
 have hv := hf.vr t
 rw [ht] at hv
 have hl := flat_len hz l
 generalize hu : tmps.getD t undef = u at hv
 generalize hq : l.length = q at hv
 have slot : ∀ (g' : Gh) (m : Nat), VR g' m (.sl z (l.map c) (.tk H.length)) u → FR g' m N (Frm.of [(t, .sl z (l.map c) (.tk H.length))]) tmps := fun g' m h => ⟨hf.size, fun k => by
  by_cases e : k = t
  ·subst e; simp only [Frm.of, if_true]; rw [hu]; exact h
  ·simp only [Frm.of, if_neg e]; exact .any _⟩
 cases hv with
 | hs _ _ _ _ _ cap hidl hll hmc hcap =>
  obtain ⟨h1, h2, h3, h4, h5⟩ := hm.owned hid (.inr (by omega))
  obtain ⟨hm1, hg1⟩ := hm.freeze hid
  obtain ⟨cc, el, frz, b1, b2, b3⟩ := h2
  obtain ⟨m1, m2⟩ := hm1.retok (id := id) (b := (g.mu id).b) (o := (g.mu id).o + q * z) (l := (g.mu id).o + cap * z) (by rw [List.getElem?_set_self hlt]) h1 ⟨cc, el, frz, b1, by omega, fun o ho => b3 o (by omega)⟩ (fun o v hro => by
   simp only [Gh.fz] at hro
   split at hro
   ·rename_i hx; rw [hl, hq] at hx; omega
   ·rw [h4] at hro; cases hro)
  rw [hlen] at m1 m2
  refine ⟨_, slot _ _ ?_, m1, ⟨⟨fun b o v h => m2.gle.ro b o v (hg1.ro b o v h), fun i hi => (m2.gle.mu i (by omega)).trans (hg1.mu i (by omega))⟩, fun b hb ho => m2.un b hb ho, m2.size, m2.os, m2.tape, m2.output⟩, by simp; omega⟩
  have := freeze_row (n := H.length) (off := 0) (len := q) (s := z) (cap := cap) hm hid (mapM_flat hp l) (by rw [hl, hq]; omega) (Nat.le_trans hll hmc)
  rw [← hq, chunk_flat hz, hq] at this
  rw [Nat.add_zero] at this ⊢
  refine this.withT (m2.gle.ro) (by simp) (.inr ?_)
  simp only [Gh.addE, if_true]
 | hn _ _ _ a hidl =>
  have : l = [] := List.eq_nil_of_length_eq_zero hq
  subst this
  obtain ⟨m1, m2⟩ := (hm.kill id).push_void
  rw [hlen] at m1 m2
  refine ⟨_, slot _ _ ?_, m1, ⟨⟨m2.gle.ro, fun i hi => m2.gle.mu i (by omega)⟩, m2.un, m2.size, m2.os, m2.tape, m2.output⟩, by simp; omega⟩
  cases a with
  | none => exact .nil z _ fun t e => by cases e; simp
  | some a => exact VR.sl z [] _ a 0 (fun _ => undef) (.inl rfl) (Nat.le_refl _) (fun e he => by cases he) (fun k p hk => by simp at hk) ⟨by simp, .inl rfl⟩
theorem Reb.tokM {N : Nat} {fr : Frm} {H M : Mem} {e t z : Nat} {es : List (List PV)} (hb : MBd H) (hp : H <+: M) (hk : M[e]? = some .tok) (hlo : H.length ≤ e) (ht : fr t = .sl z es (.tk e)) :
  Reb N H.length fr (Frm.of [(t, .sl z es (.tk H.length))]) M (H ++ [.tok]) := by
 obtain ⟨tl, rfl⟩ := hp
 obtain ⟨k, rfl⟩ : ∃ k, e = H.length + k := ⟨e - H.length, by omega⟩
 refine Reb.tok (Nat.le_refl _) hb (t := k) ?_ ⟨?_, trivial⟩
 ·rw [getElem?_tok] at hk; exact hk
 ·rw [ht]; exact Rn.tok
theorem Reb.ownM {N n mc : Nat} {fr : Frm} {H M : Mem} {e t z : Nat} {ps : List PV} (hb : MBd H) (hp : H <+: M) (hk : M[e]? = some (.cells (ps.map PV.av))) (hlo : H.length ≤ e) (ht : fr t = .hs e 0 n mc z) :
  Reb N H.length fr (Frm.of [(t, .hs H.length 0 n mc z)]) M (H ++ [.cells (ps.map PV.av)]) := by
 obtain ⟨tl, rfl⟩ := hp
 obtain ⟨k, rfl⟩ : ∃ k, e = H.length + k := ⟨e - H.length, by omega⟩
 refine Reb.keep [H.length + k] (Nat.le_refl _) hb rfl (by simp) (fun r h => by simp at h; omega) (fun j r e' h h' => ?_) (Rn.of (l := [(t, .hs H.length 0 n mc z)]) fun p hp => ?_)
 ·cases j with
  | zero =>
   simp at h h'; subst h h'
   refine ⟨_, hk, .cells _ _ rfl fun i c c' h1 h2 => ?_⟩
   rw [h1] at h2; cases h2
   rw [List.getElem?_map] at h1
   cases hx : ps[i]? with
   | none => rw [hx] at h1; cases h1
   | some p =>
    rw [hx] at h1; cases h1
    cases p with
    | sc v => exact .sc v
    | sl z es => exact .no z es .no
  | succ j => simp at h
 ·simp at hp; subst hp
  rw [ht]
  have := Rn.hs (τ := tau H.length [H.length + k]) (m := (H ++ [Ent.cells (ps.map PV.av)]).length) H.length 0 n mc z (by simp)
  rw [tau_hi] at this
  exact this
theorem MBd.newT {H : Mem} (hH : MBd H) : MBd (H ++ [.tok]) := fun id e he => by
 rcases get_snoc he with he | ⟨rfl, rfl⟩
 ·exact Bd.emono (by simp) (hH id e he)
 ·trivial
theorem Bd_newT {z : Nat} (H : Mem) (x : Ent) (es : List (List PV)) : Bd (H ++ [x]).length (.sl z es (.tk H.length)) := .sl _ _ _ fun t e => by cases e; simp
theorem done_reb {P : Program} {fn : Func} {N n0 : Nat} {t : Tmp} {fr : Frm} {M M1 : Mem} {r0 : AV} (hr : fn.results = #[.tmp t]) (h : Reb N n0 fr (Frm.of [(t, r0)]) M M1) :
  ∃ fr1 H', Reb N n0 fr fr1 M H' ∧ resS P fn fr1 H' fun r M => AVLe r r0 ∧ M1 <+: M := ⟨_, _, h, resS_tmp hr ⟨by simp only [Frm.of, if_true]; exact .refl _, List.prefix_refl _⟩⟩
theorem Bd_new (H : Mem) (x : Ent) : Bd (H ++ [x]).length (.pt H.length 0) := .pt _ _ (by simp)
end Go.Proofs.YtaaamoicidfgcaaGreat.Am
namespace Go.Proofs.YtaaamoicidfgcaaGreat.Am
open Go
def slcH (n : Nat) (lo hi : Int) : Option (Nat × Nat) := if 0 ≤ lo ∧ lo ≤ hi ∧ hi ≤ n then some (lo.toNat, hi.toNat - lo.toNat) else none
theorem slcH_some {n o k : Nat} {lo hi : Int} (h : slcH n lo hi = some (o, k)) : 0 ≤ lo ∧ lo ≤ hi ∧ hi ≤ n ∧ o = lo.toNat ∧ k = hi.toNat - lo.toNat := by
 unfold slcH at h
 split at h
 ·rename_i hc; cases h; exact ⟨hc.1, hc.2.1, hc.2.2, rfl, rfl⟩
 ·cases h
theorem slcH_le {n o k : Nat} {lo hi : Int} (h : slcH n lo hi = some (o, k)) : o + k ≤ n := by obtain ⟨h0, h1, h2, rfl, rfl⟩ := slcH_some h; omega
def mget {β : Type} (l : List (Int × β)) (k : Int) : Option β := (l.find? fun y => y.1 == k).map (·.2)
def mset {β : Type} (l : List (Int × β)) (k : Int) (v : β) : List (Int × β) := if l.any (·.1 == k) then l.map fun y => if y.1 == k then (k, v) else y else l ++ [(k, v)]
def fillL {α : Type} (l : List α) (o k : Nat) (a : α) : List α := l.take o ++ List.replicate k a ++ l.drop (o + k)
theorem fillL_len {α : Type} {l : List α} {o k : Nat} {a : α} (h : o + k ≤ l.length) : (fillL l o k a).length = l.length := by unfold fillL; simp; omega
def idxP {α : Type} (l : List α) (o n : Nat) (i : Int) : Option α := if 0 ≤ i ∧ i < n then idx l ((o : Int) + i) else none
theorem idxP_some {α : Type} {l : List α} {o n : Nat} {i : Int} {a : α} (h : idxP l o n i = some a) : 0 ≤ i ∧ i < n ∧ idx l ((o : Int) + i) = some a := by
 unfold idxP at h
 split at h
 ·rename_i hc; exact ⟨hc.1, hc.2, h⟩
 ·cases h
end Go.Proofs.YtaaamoicidfgcaaGreat.Am
namespace Go.Proofs.YtaaamoicidfgcaaGreat.Am
open Go
set_option linter.unusedVariables false
section
variable {P : Program} {fr : Frm} {H : Mem} {dst : Option Nat} {ty : TypeId} {pos : String} {after : Array Edge} {guard : Option (Nat × Bool)}
end
end Go.Proofs.YtaaamoicidfgcaaGreat.Am
namespace Go.Proofs.YtaaamoicidfgcaaGreat.Am
open Go
set_option linter.unusedVariables false
theorem MR.fewer {g : Gh} {H : Mem} {w : World} {id : Nat} {cs cs' : List AV} (hm : MR g H w) (hid : H[id]? = some (.cells cs)) (hl : cs' <+: cs) : MR g (H.set id (.cells cs')) w := by
 have hlen : (H.set id (Ent.cells cs')).length = H.length := by simp
 refine ⟨hm.ro, fun id' e he => ?_, fun b i hb => by rw [hlen]; exact hm.ow b i hb⟩
 rw [hlen]
 rcases get_set he with ⟨hne, he⟩ | ⟨rfl, rfl, _⟩
 ·exact hm.ent id' e he
 ·rcases hm.ent _ _ hid with ⟨e1, e2⟩ | ⟨h1, h2, h3, h4, h5⟩
  ·exact .inl ⟨by rw [e1] at hl; exact List.prefix_nil.1 hl, e2⟩
  ·refine .inr ⟨h1, h2, by have := hl.length_le; omega, h4, fun k c hc => h5 k c ?_⟩
   obtain ⟨tl, rfl⟩ := hl
   rw [List.getElem?_append_left (lt_of_get hc)]; exact hc
theorem AVLe.hsc {id k n z : Nat} (h : k ≤ n) : AVLe (.hs id 0 k n z) (.hs id 0 k k z) := fun g m v hv => by
 generalize hq : n = q at hv
 cases hv with
 | hs _ _ _ _ _ cap hid hl hmc hcap => exact .hs id 0 k k z cap hid (Nat.le_refl _) (by omega) hcap
 | hn _ _ _ a hid => exact .hn id 0 z a hid
theorem done_cut {α : Type} {c : α → List PV} {P : Program} {fn : Func} {N n0 : Nat} {t : Tmp} {fr : Frm} {M H1 : Mem} {id k n o z : Nat} {l : List α} (hr : fn.results = #[.tmp t]) (hid : M[id]? = some (.cells ((l.map c).flatten.map PV.av))) (ht : fr t = .hs id (o * z) k (n - o) z) (hn : l.length = n) (hk : k ≤ n ∧ o = 0)
  (hp : H1.set id (.cells ((l.map c).flatten.map PV.av)) <+: M) (hlt : id < H1.length) :
  ∃ fr1 H', Reb N n0 fr fr1 M H' ∧ resS P fn fr1 H' fun r M' => AVLe r (.hs id 0 (l.take k).length (l.take k).length z) ∧ H1.set id (.cells (((l.take k).map c).flatten.map PV.av)) <+: M' := by
 obtain ⟨hk, rfl⟩ := hk
 rw [Nat.zero_mul, Nat.sub_zero] at ht
 refine ⟨fr, M.set id (.cells (((l.take k).map c).flatten.map PV.av)), fun g w tmps hn0 hf hm => ?_, resS_tmp hr ⟨?_, ?_⟩⟩
 ·refine ⟨g, by rw [List.length_set]; exact hf, hm.fewer hid ?_, .refl _ _ _, by rw [List.length_set]; exact hn0⟩
  refine ⟨((l.drop k).map c).flatten.map PV.av, ?_⟩
  rw [← List.map_append, ← List.flatten_append, ← List.map_append, List.take_append_drop]
 ·rw [ht, List.length_take, hn, Nat.min_eq_left hk]
  exact .hsc hk
 ·have := pre_lo (i := id) (x := .cells (((l.take k).map c).flatten.map PV.av)) hp (by rw [List.length_set]; exact hlt)
  rw [List.set_set] at this
  exact this
section
variable {α : Type} {c : α → List PV} {z : Nat} {P : Program} {fr : Frm} {H : Mem} {dst : Option Nat} {ty : TypeId} {pos : String} {after : Array Edge} {guard : Option (Nat × Bool)}
theorem o_sliceHO {t e : TypeId} {x : Operand} {lo hi : Option Operand} {s b id n m k o : Nat} {zz : Option Value} {lo' hi' : Option (IntKind × Int)} (hu : P.underlying t = some (.slice e)) (hti : tinf P e = some (s, b, zz)) (hx : aev fr x = .hs id 0 n m s)
  (hl : bnd fr lo = some lo') (hh : bnd fr hi = some hi') (hs : slcH m (bd0 lo' 0) (bd0 hi' n) = some (o, k)) : OpS P ⟨dst, .slice t x lo hi none, ty, pos, after, guard⟩ fr H (Det (.hs id (o * s) k (m - o) s) H) := by
 obtain ⟨h0, h1, h2, rfl, rfl⟩ := slcH_some hs
 refine opS_slice (m := none) hl hh rfl ?_
 refine ⟨fun h => (by cases h), ?_⟩
 simp only [hu, hti, hx]
 refine ⟨trivial, h0, h1, h2, Int.le_refl _, ?_⟩
 rw [Nat.zero_add]
 exact ⟨.refl _, rfl⟩
theorem o_clearO {t e : TypeId} {x : Operand} {b id m k o : Nat} {zz : Value} {l : List α} {a : α} {H1 : Mem} (hu : P.underlying t = some (.slice e)) (hti : tinf P e = some (z, b, some zz)) (hzc : (zeroCs zz).length = z) (hce : (azeros (zeroCs zz) 1).all AV.cellish = true) (hzz : zeroCs zz = (c a).map PV.av)
  (hz : ∀ a, (c a).length = z) (hx : aev fr x = .hs id (o * z) k m z) (hid : H[id]? = some (.cells ((l.map c).flatten.map PV.av))) (hn : o + k ≤ l.length) (hM : H1 = H.set id (.cells (((fillL l o k a).map c).flatten.map PV.av))) :
  OpS P ⟨dst, .call ⟨.builtin .clear, #[x], #[t]⟩, ty, pos, after, guard⟩ fr H (Det (.tp []) H1) := opS_clear (by
 simp only [aClear, hu, hti, hx, hid]
 refine ⟨hzc, hce, trivial, ?_, .refl _, ?_⟩
 ·rw [flat_len hz, ← Nat.add_mul]; exact Nat.mul_le_mul_right _ hn
 ·rw [hM, azeros_rep hzz]
  congr 2
  have e : l = l.take o ++ ((l.drop o).take k ++ l.drop (o + k)) := by rw [← List.drop_drop, List.take_append_drop, List.take_append_drop]
  have el : o * z = (((l.take o).map c).flatten.map PV.av).length := by rw [flat_len hz, List.length_take, Nat.min_eq_left (by omega)]
  have er : List.replicate k (c a) = (List.replicate k a).map c := by rw [List.map_replicate]
  rw [er]
  conv => lhs; arg 1; rw [e]
  unfold fillL
  simp only [List.map_append, List.flatten_append, List.append_assoc]
  conv => lhs; rw [el]
  rw [setAt_mid]
  rw [flat_len hz, flat_len hz, List.length_replicate, List.length_take, List.length_drop]
  congr 1
  omega)
theorem o_indexAddrP {t e : TypeId} {x y : Operand} {s b : Nat} {zz : Option Value} {l : List α} {id n m o : Nat} {kk : IntKind} {i : Int} {a : α} (hu : P.underlying t = some (.slice e)) (hti : tinf P e = some (s, b, zz)) (hx : aev fr x = .hs id (o * s) n m s)
  (hy : aev fr y = .sc (.int kk i)) (hi : idxP l o n i = some a) : OpS P ⟨dst, .indexAddr t x y, ty, pos, after, guard⟩ fr H (Det (.pt id ((o + i.toNat) * s)) H) := by
 obtain ⟨h0, h1, _⟩ := idxP_some hi
 have := o_indexAddrH (P := P) (fr := fr) (H := H) (dst := dst) (ty := ty) (pos := pos) (after := after) (guard := guard) hu hti hx hy h0 h1
 rw [← Nat.add_mul] at this
 exact this
end
end Go.Proofs.YtaaamoicidfgcaaGreat.Am
namespace Go.Proofs.YtaaamoicidfgcaaGreat.Am
open Go
set_option linter.unusedVariables false
def RebM (H H1 : Mem) : Prop := H.length ≤ H1.length ∧ ∀ (g : Gh) (w : World), MR g H w → ∃ g1, MR g1 H1 w ∧ Ev H.length g w g1 w
theorem RebM.refl (H : Mem) : RebM H H := ⟨Nat.le_refl _, fun g w h => ⟨g, h, .refl _ _ _⟩⟩
theorem RebM.trans {H H1 H2 : Mem} (h : RebM H H1) (h' : RebM H1 H2) : RebM H H2 := ⟨Nat.le_trans h.1 h'.1, fun g w hm => by
 obtain ⟨g1, m1, e1⟩ := h.2 g w hm
 obtain ⟨g2, m2, e2⟩ := h'.2 g1 w m1
 exact ⟨g2, m2, e1.trans e2 h.1⟩⟩
theorem Ev.less {n n0 : Nat} {g g' : Gh} {w w' : World} (h : Ev n g w g' w') (hn : n0 ≤ n) : Ev n0 g w g' w' := ⟨⟨h.gle.ro, fun i hi => h.gle.mu i (by omega)⟩, h.un, h.size, h.os, h.tape, h.output⟩
theorem Reb.ofM {N n0 : Nat} {fr : Frm} {H H1 : Mem} (h : RebM H H1) : Reb N n0 fr fr H H1 := fun g w tmps hn hf hm => by
 obtain ⟨g1, m1, e1⟩ := h.2 g w hm
 exact ⟨g1, hf.mono e1.gle h.1, m1, e1.less hn, Nat.le_trans hn h.1⟩
theorem OpS.rebM {P : Program} {o : Oper} {fr : Frm} {H H1 : Mem} {K : AV → Mem → Prop} (hr : RebM H H1) (h : OpS P o fr H1 K) : OpS P o fr H K := fun g w ev hop hm => by
 obtain ⟨g1, m1, e1⟩ := hr.2 g w hm
 refine Ls.mono (fun v w' s => ?_) (h g1 w ev (fun x hx => (hop x hx).mono e1.gle hr.1) m1)
 obtain ⟨r, H', g', k, hv, hm', he, hn⟩ := s
 exact ⟨r, H', g', k, hv, hm', e1.trans he hr.1, Nat.le_trans hr.1 hn⟩
theorem EntR.tr_of_cells {g : Gh} {n : Nat} {w : World} {id : Nat} {cs : List AV} (h : EntR g n w id (.cells cs)) : EntR g n w id (.tr (cs.map .av)) := by
 rcases h with ⟨h1, h2⟩ | ⟨h1, h2, h3, h4, h5⟩
 ·exact .inl ⟨by rw [h1]; rfl, h2⟩
 refine .inr ⟨fun b => if b = (g.mu id).b then some [] else none, fun b p hp => ?_, by simp, h2, by simpa using h3, h4, fun k c hc => ?_⟩
 ·simp only at hp
  split at hp
  ·rename_i e; rw [e]; exact h1
  ·cases hp
 ·rw [List.getElem?_map] at hc
  cases hk : cs[k]? with
  | none => rw [hk] at hc; cases hc
  | some a =>
   rw [hk] at hc; cases hc
   obtain ⟨v, hv, hr⟩ := h5 k a hk
   exact ⟨v, hv, .av _ _ _ hr⟩
theorem EntR.cells_of_tr {g : Gh} {n : Nat} {w : World} {id : Nat} {cs : List AV} (h : EntR g n w id (.tr (cs.map .av))) : EntR g n w id (.cells cs) := by
 rcases h with ⟨h1, h2⟩ | ⟨ow, h0, h1, h2, h3, h4, h5⟩
 ·exact .inl ⟨by simpa using h1, h2⟩
 refine .inr ⟨h0 _ _ h1, h2, by simpa using h3, h4, fun k c hc => ?_⟩
 obtain ⟨v, hv, hr⟩ := h5 k (.av c) (by rw [List.getElem?_map, hc]; rfl)
 cases hr with
 | av _ _ _ hr => exact ⟨v, hv, hr⟩
theorem MR.retell {g : Gh} {H : Mem} {w : World} {id : Nat} {e : Ent} (hm : MR g H w) (h : EntR g H.length w id e) : MR g (H.set id e) w := by
 have hlen : (H.set id e).length = H.length := by simp
 refine ⟨hm.ro, fun id' x hx => ?_, fun b i hb => by rw [hlen]; exact hm.ow b i hb⟩
 rw [hlen]
 rcases get_set hx with ⟨hne, hx⟩ | ⟨rfl, rfl, _⟩
 ·exact hm.ent id' x hx
 ·exact h
theorem RebM.tell {H : Mem} {id : Nat} {e : Ent} (h : ∀ g w, MR g H w → EntR g H.length w id e) : RebM H (H.set id e) := ⟨by simp, fun g w hm => ⟨g, hm.retell (h g w hm), .refl _ _ _⟩⟩
theorem RebM.tr {H : Mem} {p : Nat} {cs : List AV} {ts : List Tr} (hp : H[p]? = some (.cells cs)) (ht : ts = cs.map .av) : RebM H (H.set p (.tr ts)) := .tell fun g w hm => by subst ht; exact (hm.ent p _ hp).tr_of_cells
theorem RebM.cells {H : Mem} {p : Nat} {cs : List AV} {ts : List Tr} (hp : H[p]? = some (.tr ts)) (ht : ts = cs.map .av) : RebM H (H.set p (.cells cs)) := .tell fun g w hm => by subst ht; exact (hm.ent p _ hp).cells_of_tr
theorem EntR.retr {g : Gh} {n : Nat} {w : World} {id k : Nat} {cs : List Tr} {t t' : Tr} (h : EntR g n w id (.tr cs)) (hk : cs[k]? = some t) (ht : ∀ ow v, TrR g n w ow [k] t v → TrR g n w ow [k] t' v) : EntR g n w id (.tr (cs.set k t')) := by
 rcases h with ⟨h1, h2⟩ | ⟨ow, h0, h1, h2, h3, h4, h5⟩
 ·subst h1; cases hk
 refine .inr ⟨ow, h0, h1, h2, by simpa using h3, h4, fun j c hc => ?_⟩
 rcases get_set hc with ⟨hne, hc⟩ | ⟨rfl, rfl, _⟩
 ·exact h5 j c hc
 ·obtain ⟨v, hv, hr⟩ := h5 j t hk
  exact ⟨v, hv, ht _ _ hr⟩
theorem RebM.nilS {H : Mem} {p k z : Nat} {cs ds : List Tr} (hp : H[p]? = some (.tr cs)) (hk : cs[k]? = some (.av (.sc (.slice none 0 0)))) (hd : ds = cs.set k (.sr z [])) : RebM H (H.set p (.tr ds)) :=
 .tell fun g w hm => by subst hd; exact (hm.ent p _ hp).retr hk fun ow v h => by cases h with | av _ _ _ h => cases h; exact .srn _ z
theorem RebM.exS {H : Mem} {p k z : Nat} {es : List (List PV)} {cs ds : List Tr} (hp : H[p]? = some (.tr cs)) (hk : cs[k]? = some (.av (.sl z es .ex))) (hd : ds = cs.set k (.sr z es)) : RebM H (H.set p (.tr ds)) :=
 .tell fun g w hm => by
  subst hd
  exact (hm.ent p _ hp).retr hk fun ow v h => by
   cases h with
   | av _ _ _ h =>
    have h' := h.no_tok
    cases h with
    | nil z => exact .srn _ z
    | sl z es k a cap f h1 h2 h3 h4 h5 => exact .sr _ z _ a _ cap rfl h' (.inl h5)
theorem RebM.absorb {H : Mem} {p q k : Nat} {cs ds : List Tr} {a : AV} {t : Tr} (hp : H[p]? = some (.tr cs)) (hpq : p ≠ q) (hk : cs[k]? = some (.av a)) (hd : ds = cs.set k t)
  (hsub : ∀ g w v, MR g H w → VR g H.length a v → ∃ oq : Nat → Option (List Nat), (∀ b r, oq b = some r → g.ow b = some q) ∧ TrR g H.length w oq [] t v) : RebM H ((H.set p (.tr ds)).set q .dead) := by
 subst hd
 refine ⟨by simp, fun g w hm => ?_⟩
 let g' : Gh := { g with ow := fun b => if g.ow b = some q then some p else g.ow b }
 have hgle : Gle H.length g g' := ⟨fun _ _ _ h => h, fun _ _ => rfl⟩
 have hlen : ((H.set p (.tr (cs.set k t))).set q .dead).length = H.length := by simp
 have hpl := lt_of_get hp
 refine ⟨g', ⟨hm.ro, fun id x hx => ?_, fun b i hb => ?_⟩, ⟨hgle, fun b _ ho => ⟨by simp [g', ho], rfl⟩, Nat.le_refl _, rfl, rfl, rfl⟩⟩
 ·rw [hlen]
  rcases get_set hx with ⟨hne, hx⟩ | ⟨rfl, rfl, _⟩
  ·rcases get_set hx with ⟨hne2, hx⟩ | ⟨rfl, rfl, _⟩
   ·refine (hm.ent id x hx).keep (lt_of_get hx) hgle (Nat.le_refl _) fun b hb => ⟨?_, fun _ => rfl, rfl⟩
    simp only [g', hb, Option.some.injEq, if_neg hne]
   ·rcases hm.ent id _ hp with ⟨h1, h2⟩ | ⟨ow, h0, h1, h2, h3, h4, h5⟩
    ·subst h1; cases hk
    obtain ⟨v, hv, hr⟩ := h5 k _ hk
    cases hr with
    | av _ _ _ hr =>
     obtain ⟨oq, hq, ht⟩ := hsub g w v hm hr
     have hno : ∀ b r, ow b = some r → oq b = none := fun b r hb => by
      cases ho : oq b with
      | none => rfl
      | some r' => have := hq b r' ho; rw [h0 b r hb] at this; cases this; exact absurd rfl hne
     let ow' : Nat → Option (List Nat) := fun b => match oq b with | some r => some (k :: r) | none => ow b
     refine .inr ⟨ow', fun b r hb => ?_, ?_, h2, by simpa using h3, h4, fun j c hc => ?_⟩
     ·simp only [ow'] at hb
      cases ho : oq b with
      | none => rw [ho] at hb; simp only [g', h0 b r hb, Option.some.injEq, if_neg hne]
      | some r' => simp only [g', hq b r' ho, if_true]
     ·simp only [ow']; rw [hno _ _ h1]; exact h1
     ·rcases get_set hc with ⟨hne3, hc⟩ | ⟨rfl, rfl, _⟩
      ·obtain ⟨u, hu, hur⟩ := h5 j c hc
       refine ⟨u, hu, hur.move hgle (Nat.le_refl _) [j] fun b r hb => ⟨?_, fun _ => rfl, rfl⟩⟩
       simp only [ow']; rw [hno _ _ hb]; exact hb
      ·refine ⟨v, hv, ht.move hgle (Nat.le_refl _) [j] fun b r hb => ⟨?_, fun _ => rfl, rfl⟩⟩
       simp only [ow']
       rw [List.nil_append] at hb
       rw [hb]; rfl
  ·trivial
 ·rw [hlen]
  simp only [g'] at hb
  split at hb
  ·rename_i h1; cases hb; exact ⟨(hm.ow b q h1).1, hpl⟩
  ·exact hm.ow b i hb
theorem TrR.cells {g : Gh} {n : Nat} {w : World} {q : Nat} {ds : List Tr} (h : EntR g n w q (.tr ds)) (hne : ds ≠ [] ∨ (g.mu q).o ≤ (g.mu q).l) : ∃ ow : Nat → Option (List Nat), (∀ b p, ow b = some p → g.ow b = some q) ∧ ow (g.mu q).b = some [] ∧ Blk w (g.mu q).b (g.mu q).l ∧
   (g.mu q).o + ds.length ≤ (g.mu q).l ∧ (∀ o, g.ro (g.mu q).b o = none) ∧ ∃ f : Nat → Value, (∀ (k : Nat) c, ds[k]? = some c → w.cell? ⟨(g.mu q).b, (g.mu q).o + k, none⟩ = some (f k)) ∧ ∀ (k : Nat) c, ds[k]? = some c → TrR g n w ow [k] c (f k) := by
 rcases h with ⟨h1, h2⟩ | ⟨ow, h0, h1, h2, h3, h4, h5⟩
 ·rcases hne with h | h
  ·exact absurd h1 h
  ·omega
 refine ⟨ow, h0, h1, h2, h3, h4, fun k => (w.cell? ⟨(g.mu q).b, (g.mu q).o + k, none⟩).getD undef, fun k c hc => ?_, fun k c hc => ?_⟩
 ·obtain ⟨v, hv, _⟩ := h5 k c hc; simp only [hv]; rfl
 ·obtain ⟨v, hv, hr⟩ := h5 k c hc; simp only [hv]; exact hr
theorem RebM.foldP {H : Mem} {p q k : Nat} {cs ds es : List Tr} (hp : H[p]? = some (.tr cs)) (hq : H[q]? = some (.tr es)) (hpq : p ≠ q) (hk : cs[k]? = some (.av (.pt q 0))) (hne : es ≠ []) (hd : ds = cs.set k (.pt es)) :
  RebM H ((H.set p (.tr ds)).set q .dead) := .absorb hp hpq hk hd fun g w v hm hv => by
 cases hv with
 | pt _ _ hid =>
  obtain ⟨ow, h0, h1, h2, h3, h4, f, h5, h6⟩ := TrR.cells (hm.ent q _ hq) (.inl hne)
  exact ⟨ow, h0, .pt [] es _ _ _ f h1 h2 h3 h4 h5 h6⟩
theorem RebM.foldS {H : Mem} {p q k z : Nat} {es : List (List PV)} {cs ds : List Tr} (hp : H[p]? = some (.tr cs)) (hq : H[q]? = some .tok) (hpq : p ≠ q) (hk : cs[k]? = some (.av (.sl z es (.tk q)))) (hd : ds = cs.set k (.sr z es)) :
  RebM H ((H.set p (.tr ds)).set q .dead) := .absorb hp hpq hk hd fun g w v hm hv => by
 have hv' := hv.no_tok
 cases hv with
 | nil _ _ hk => exact ⟨fun _ => none, (fun b r h => by cases h), .srn [] z⟩
 | sl _ _ _ a cap f g1 g2 g3 g4 g5 =>
  by_cases hc : cap = es.length
  ·exact ⟨fun _ => none, (fun b r h => by cases h), .sr [] z es a _ cap rfl hv' (.inl hc)⟩
  have hmu := g5.2.resolve_left hc
  have he := hm.ent q _ hq
  simp only [EntR, hmu] at he
  rcases he with he | ⟨h1, h2, h3⟩
  ·have := Nat.mul_le_mul_right z g2
   omega
  refine ⟨fun b => if b = a.block then some [] else none, fun b r hb => ?_, .sr [] z es a _ cap rfl hv' (.inr ⟨by simp, h2, h3⟩)⟩
  simp only at hb
  split at hb
  ·rename_i e; rw [e]; exact h1
  ·cases hb
def under (k : Nat) : Option (List Nat) → Option (List Nat)
 | some (j :: r) => if j = k then some r else none
 | _ => none
theorem under_self (k : Nat) (r : List Nat) : under k (some (k :: r)) = some r := by simp [under]
theorem RebM.expel {H : Mem} {p k : Nat} {cs ds : List Tr} {a : AV} {t : Tr} {e : Ent} (hp : H[p]? = some (.tr cs)) (hk : cs[k]? = some t) (hd : ds = cs.set k (.av a))
  (hsub : ∀ (g : Gh) w ow v, MR g H w → TrR g H.length w ow [k] t v → ∃ pl : Pl, ∀ g' : Gh, Gle H.length g g' → g'.mu H.length = pl → (∀ b r, ow b = some (k :: r) → g'.ow b = some H.length ∧ ∀ o, g'.ro b o = g.ro b o) →
   VR g' (H.length + 1) a v ∧ EntR g' (H.length + 1) w H.length e) : RebM H (H.set p (.tr ds) ++ [e]) := by
 subst hd
 refine ⟨by simp, fun g w hm => ?_⟩
 rcases hm.ent p _ hp with ⟨h1, h2⟩ | ⟨ow, h0, h1, h2, h3, h4, h5⟩
 ·subst h1; cases hk
 obtain ⟨v, hv, hr⟩ := h5 k _ hk
 obtain ⟨pl, hsub⟩ := hsub g w ow v hm hr
 have hpl := lt_of_get hp
 have hlen : (H.set p (.tr (cs.set k (.av a))) ++ [e]).length = H.length + 1 := by simp
 let g' : Gh := ⟨g.ro, fun b => if (under k (ow b)).isSome then some H.length else g.ow b, fun i => if i = H.length then pl else g.mu i⟩
 have hgle : Gle H.length g g' := ⟨fun _ _ _ h => h, fun i hi => by simp only [g']; rw [if_neg (by omega)]⟩
 have how : ∀ b, (under k (ow b)).isSome = true → g.ow b = some p := fun b hb => by
  cases ho : ow b with
  | none => rw [ho] at hb; cases hb
  | some r => exact h0 b r ho
 obtain ⟨s1, s2⟩ := hsub g' hgle (by simp [g']) fun b r hb => ⟨by simp only [g', hb, under_self]; simp, fun _ => rfl⟩
 refine ⟨g', ⟨hm.ro, fun id x hx => ?_, fun b i hb => ?_⟩, ⟨hgle, fun b _ ho => ⟨?_, rfl⟩, Nat.le_refl _, rfl, rfl, rfl⟩⟩
 ·rw [hlen]
  rcases get_snoc hx with hx | ⟨rfl, rfl⟩
  ·rcases get_set hx with ⟨hne, hx⟩ | ⟨rfl, rfl, _⟩
   ·refine (hm.ent id x hx).keep (lt_of_get hx) hgle (by omega) fun b hb => ⟨?_, fun _ => rfl, rfl⟩
    simp only [g']
    rw [if_neg]
    ·exact hb
    ·intro hu; have := how b hu; rw [hb] at this; cases this; exact hne rfl
   ·have hmu : g'.mu id = g.mu id := hgle.mu id hpl
    simp only [EntR, hmu]
    refine .inr ⟨fun b => if (under k (ow b)).isSome then none else ow b, fun b r hb => ?_, ?_, h2, by simpa using h3, h4, fun j c hc => ?_⟩
    ·simp only at hb
     split at hb
     ·cases hb
     ·rename_i hu; simp only [g']; rw [if_neg hu]; exact h0 b r hb
    ·simp [h1, under]
    ·rcases get_set hc with ⟨hne3, hc⟩ | ⟨rfl, rfl, _⟩
     ·obtain ⟨u, hu, hur⟩ := h5 j c hc
      refine ⟨u, hu, hur.move hgle (by omega) [j] fun b r hb => ⟨?_, fun _ => rfl, rfl⟩⟩
      simp [hb, under, hne3]
     ·exact ⟨v, hv, .av _ _ _ s1⟩
  ·simp only [List.length_set]; exact s2
 ·rw [hlen]
  simp only [g'] at hb
  split at hb
  ·rename_i hu; cases hb; exact ⟨(hm.ow b p (how b hu)).1, by omega⟩
  ·have := hm.ow b i hb; exact ⟨this.1, by omega⟩
 ·simp only [g']
  rw [if_neg]
  ·exact ho
  ·intro hu; have := how b hu; rw [ho] at this; cases this
theorem TrR.out {g g' : Gh} {n n' k j : Nat} {w : World} {ow : Nat → Option (List Nat)} {t : Tr} {v : Value} (h : TrR g n w ow [k, j] t v) (hg : Gle n g g') (hn : n ≤ n') (hro : ∀ b r, ow b = some (k :: r) → ∀ o, g'.ro b o = g.ro b o) :
  TrR g' n' w (fun b => under k (ow b)) [j] t v := h.move hg hn [j] fun b r hb => ⟨by simp only [hb]; exact under_self k _, hro b _ hb, rfl⟩
theorem under_some {k : Nat} {x : Option (List Nat)} {r : List Nat} (h : under k x = some r) : x = some (k :: r) := by
 unfold under at h
 split at h
 ·split at h
  ·rename_i e; subst e; cases h; rfl
  ·cases h
 ·cases h
theorem RebM.unfP {H : Mem} {p k : Nat} {cs ds es : List Tr} (hp : H[p]? = some (.tr cs)) (hk : cs[k]? = some (.pt es)) (hd : ds = cs.set k (.av (.pt H.length 0))) : RebM H (H.set p (.tr ds) ++ [.tr es]) := .expel hp hk hd fun g w ow v hm hr => by
 cases hr with
 | pt _ _ b o l f ho hb hl hro hv hr =>
  refine ⟨⟨b, o, l⟩, fun g' hg hmu hb' => ?_⟩
  refine ⟨by have := VR.pt (g := g') (n := H.length + 1) H.length 0 (by omega); rw [hmu] at this; exact this, ?_⟩
  simp only [EntR, hmu]
  obtain ⟨k1, k2⟩ := hb' b [] ho
  refine .inr ⟨fun b => under k (ow b), fun b r hbr => (hb' b r (under_some hbr)).1, by simp only [ho]; exact under_self k [], hb, hl, fun o => (k2 o).trans (hro o), fun j c hc => ⟨f j, hv j c hc, (hr j c hc).out hg (by omega) fun b r hbr => (hb' b r hbr).2⟩⟩
theorem RebM.unfS {H : Mem} {p k z : Nat} {cs ds : List Tr} {es : List (List PV)} (hp : H[p]? = some (.tr cs)) (hk : cs[k]? = some (.sr z es)) (hd : ds = cs.set k (.av (.sl z es (.tk H.length)))) : RebM H (H.set p (.tr ds) ++ [.tok]) := .expel hp hk hd fun g w ow v hm hr => by
 cases hr with
 | sr _ _ _ a len cap hl h hk =>
  subst hl
  by_cases hc : cap = es.length
  ·refine ⟨⟨0, 1, 0⟩, fun g' hg hmu hb' => ⟨h.withT hg.ro (by omega) (.inl hc), ?_⟩⟩
   simp only [EntR, hmu]
   exact .inl (by omega)
  obtain ⟨h1, h2, h3⟩ := hk.resolve_left hc
  refine ⟨⟨a.block, a.off + es.length * z, a.off + cap * z⟩, fun g' hg hmu hb' => ⟨h.withT hg.ro (by omega) (.inr hmu), ?_⟩⟩
  simp only [EntR, hmu]
  obtain ⟨k1, k2⟩ := hb' _ [] h1
  exact .inr ⟨k1, h2, fun o v hv => h3 o v (by rw [← k2]; exact hv)⟩
 | srn _ _ =>
  refine ⟨⟨0, 1, 0⟩, fun g' hg hmu hb' => ⟨.nil z _ fun t e => by cases e; omega, ?_⟩⟩
  simp only [EntR, hmu]
  exact .inl (by omega)
theorem MBd.setTr {H : Mem} {p : Nat} {cs : List Tr} (hH : MBd H) (hc : ∀ c ∈ cs, c.All fun a => a.clo1 = true) : MBd (H.set p (.tr cs)) := fun id e he => by
 rw [List.length_set]
 rcases get_set he with ⟨_, he⟩ | ⟨rfl, rfl, _⟩
 ·exact hH id e he
 ·exact fun i c hc' => (hc c (List.mem_of_getElem? hc')).mono fun _ h => AV.clo1_bd h
theorem MBd.newTr {H : Mem} {cs : List Tr} (hH : MBd H) (hc : ∀ c ∈ cs, c.All fun a => a.clo1 = true) : MBd (H ++ [.tr cs]) := fun id e he => by
 rcases get_snoc he with he | ⟨rfl, rfl⟩
 ·exact Bd.emono (by simp) (hH id e he)
 ·exact fun i c hc' => (hc c (List.mem_of_getElem? hc')).mono fun _ h => AV.clo1_bd h
abbrev Tr.Clo (t : Tr) : Prop := t.All fun a => a.clo1 = true
theorem Clo.row {z n : Nat} (ps : List PV) : (Tr.hs z n ((ps.map PV.av).map .av)).Clo := .hs _ _ _ fun i c hc => by
 rw [List.map_map, List.getElem?_map] at hc
 cases h : ps[i]? with
 | none => rw [h] at hc; cases hc
 | some p => rw [h] at hc; cases hc; exact .av _ (clo1_av p)
theorem Clo.nil : ∀ c ∈ ([] : List Tr), c.Clo := fun c h => by cases h
theorem Clo.cons {t : Tr} {l : List Tr} (h : t.Clo) (hl : ∀ c ∈ l, c.Clo) : ∀ c ∈ t :: l, c.Clo := fun c hc => by
 rcases List.mem_cons.1 hc with rfl | hc
 ·exact h
 ·exact hl c hc
theorem Clo.pt {l : List Tr} (hl : ∀ c ∈ l, c.Clo) : (Tr.pt l).Clo := .pt _ fun i c hc => hl c (List.mem_of_getElem? hc)
theorem Clo.rows {z n : Nat} {l : List Tr} (hl : ∀ c ∈ l, c.Clo) : (Tr.hs z n l).Clo := .hs _ _ _ fun i c hc => hl c (List.mem_of_getElem? hc)
theorem Clo.map {α : Type} {l : List α} {k : α → Value} {v : α → AV} (h : ∀ x, (v x).clo1 = true) : (Tr.mp (l.map fun x => (k x, v x))).Clo := .mp _ fun k' a hi => by
 obtain ⟨x, _, hx⟩ := List.mem_map.1 hi
 cases hx; exact h x
end Go.Proofs.YtaaamoicidfgcaaGreat.Am
namespace Go.Proofs.YtaaamoicidfgcaaGreat.Am
open Go
set_option linter.unusedVariables false
section
variable {α : Type} {c : α → List PV} {z : Nat} {P : Program} {fr : Frm} {H : Mem} {dst : Option Nat} {ty : TypeId} {pos : String} {after : Array Edge} {guard : Option (Nat × Bool)}
end
theorem RebM.mem {H : Mem} {id : Nat} {cs cs' : List AV} (hid : H[id]? = some (.cells cs)) (hl : ALe cs cs') : RebM H (H.set id (.cells cs')) := ⟨by simp, fun g w hm => ⟨g, hm.le hid hl, .refl _ _ _⟩⟩
theorem OpS.post {P : Program} {o : Oper} {fr : Frm} {H H1 H2 : Mem} {r : AV} (h : OpS P o fr H (Det r H1)) (rb : RebM H1 H2) : OpS P o fr H (Det r H2) := fun g w ev h1 h2 =>
 Ls.mono (fun v w' s => by
  obtain ⟨r', H', g', ⟨k1, k2⟩, hv, hm, he, hn⟩ := s
  subst k2
  obtain ⟨g1, m1, e1⟩ := rb.2 g' w' hm
  exact ⟨r', _, g1, ⟨k1, rfl⟩, hv.mono e1.gle rb.1, m1, he.trans (e1.less hn) (Nat.le_refl _), Nat.le_trans hn rb.1⟩) (h g w ev h1 h2)
theorem ALe.app : ∀ {a a' b b' : List AV}, ALe a a' → ALe b b' → ALe (a ++ b) (a' ++ b')
 | [], [], _, _, _, h => h
 | _ :: _, _ :: _, _, _, h, h' => ⟨h.1, ALe.app h.2 h'⟩
 | [], _ :: _, _, _, h, _ => h.elim
 | _ :: _, [], _, _, h, _ => h.elim
theorem ALe.zeros {zc : List AV} {cs : List PV} (h : ALe zc (cs.map PV.av)) : ∀ n, ALe (azeros zc n) ((List.replicate n cs).flatten.map PV.av)
 | 0 => trivial
 | n + 1 => by
  rw [azeros, List.replicate_succ, List.flatten_cons, List.map_append]
  exact h.app (ALe.zeros h n)
section
variable {α : Type} {c : α → List PV} {z : Nat} {P : Program} {fr : Frm} {H : Mem} {dst : Option Nat} {ty : TypeId} {pos : String} {after : Array Edge} {guard : Option (Nat × Bool)}
theorem o_make2Le {t e : TypeId} {x y : Operand} {s b : Nat} {z : Value} {k1 k2 : IntKind} {n : Int} {a : α} {m : List α} {H1 : Mem} (hu : P.underlying t = some (.slice e)) (hti : tinf P e = some (s, b, some z)) (hz : (zeroCs z).length = s)
  (hx : aev fr x = .sc (.int k1 n)) (hy : aev fr y = .sc (.int k2 n)) (ha : ALe (zeroCs z) ((c a).map PV.av)) (hm : mks b a n = some m) (hM : H1 = H ++ [.cells ((m.map c).flatten.map PV.av)]) :
  OpS P ⟨dst, .makeSlice t x y, ty, pos, after, guard⟩ fr H (Det (.hs H.length 0 m.length m.length s) H1) := by
 obtain ⟨h0, h1, h2, rfl⟩ := mks_some hm
 have h : OpS P ⟨dst, .makeSlice t x y, ty, pos, after, guard⟩ fr H (Det (.hs H.length 0 n.toNat n.toNat s) (H ++ [.cells (azeros (zeroCs z) n.toNat)])) := opS_makeSlice 2 (by
  simp only [aMake, hu, hti, hx, hy]
  exact ⟨hz, h0, trivial, h1, h2, .refl _, rfl⟩)
 have h3 := h.post (RebM.mem (id := H.length) (by simp) (ALe.zeros ha n.toNat))
 rw [List.set_append_right _ _ (Nat.le_refl _), Nat.sub_self] at h3
 rw [hM, List.map_replicate, List.length_replicate]
 exact h3
end
theorem tok_neT {M : Mem} {i j : Nat} {cs : List Tr} (h : M[i]? = some (.tr cs)) (h2 : M[j]? = some .tok) : i ≠ j := fun e => by rw [e, h2] at h; cases h
theorem Reb.newM {N : Nat} {fr : Frm} {H M : Mem} {e t : Nat} {x : Ent} (hb : MBd H) (hp : H <+: M) (hk : M[e]? = some x) (hlo : H.length ≤ e) (ht : fr t = .pt e 0) (hx : RnE (tau H.length [e]) (H ++ [x]).length x x) :
  Reb N H.length fr (Frm.of [(t, .pt H.length 0)]) M (H ++ [x]) := by
 obtain ⟨tl, rfl⟩ := hp
 refine Reb.keep [e] (Nat.le_refl _) hb rfl (by simp) (fun r h => by simp at h; omega) (fun j r e' h h' => ?_) (Rn.of (l := [(t, .pt H.length 0)]) fun p hp => ?_)
 ·cases j with
  | zero => simp at h h'; subst h h'; exact ⟨_, hk, hx⟩
  | succ j => simp at h
 ·simp at hp; subst hp
  rw [ht]
  have := Rn.pt (τ := tau H.length [e]) (m := (H ++ [x]).length) H.length 0 (by simp)
  rw [tau_hi] at this
  exact this
theorem Rn.clo1 {τ : Nat → Nat} {m : Nat} {a : AV} (h : a.clo1 = true) : Rn τ m a a := by
 unfold AV.clo1 at h
 split at h
 ·exact .any _
 ·exact .sc _
 ·exact .no _ _ _
 ·exact .ex _ _
 ·exact .ep _
 ·cases h
theorem RnE.tr1 {τ : Nat → Nat} {m : Nat} {cs : List Tr} (h : ∀ c ∈ cs, c.Clo) : RnE τ m (.tr cs) (.tr cs) := .tr _ fun i c hc => (h c (List.mem_of_getElem? hc)).mono fun _ ha => .clo1 ha
end Go.Proofs.YtaaamoicidfgcaaGreat.Am
namespace Go.Proofs.YtaaamoicidfgcaaGreat.Am
open Go
open Go.MapKept (Stamped IsKey)
set_option linter.unusedVariables false
theorem MR.putO {g : Gh} {H : Mem} {w w1 : World} {id : Nat} {e' : Ent} {o : Obj} (hm : MR g H w) (hlt : id < H.length) (h1 : g.ow (g.mu id).b = some id) (h4 : ∀ o, g.ro (g.mu id).b o = none)
  (hu : Upd w w1 (g.mu id).b o) (he : EntR g H.length w1 id e') : MR g (H.set id e') w1 ∧ Ev H.length g w g w1 := by
 refine ⟨⟨fun b o v hro => ?_, fun id' x hx => ?_, fun b id' ho => ?_⟩, ⟨.refl _ _, fun b hb' ho => ⟨ho, hu.other fun hbb => ?_⟩, by rw [hu.size]; omega, hu.os, hu.tape, hu.output⟩⟩
 ·have := hm.ro b o v hro
  rw [hu.cell_other]
  ·exact this
  ·intro hbb; simp only at hbb; rw [hbb, h4] at hro; cases hro
 ·rw [List.length_set]
  rcases get_set hx with ⟨hne, hx⟩ | ⟨rfl, rfl, _⟩
  ·refine (hm.ent id' x hx).keep (lt_of_get hx) (.refl _ _) (Nat.le_refl _) fun b hown => ⟨hown, fun _ => rfl, hu.other fun hbb => ?_⟩
   rw [hbb, h1] at hown; cases hown; exact hne rfl
  ·exact he
 ·have := hm.ow b id' ho
  rw [hu.size]; exact ⟨this.1, by simpa using this.2⟩
 ·rw [hbb, h1] at ho; cases ho
theorem MR.pushO {g : Gh} {H : Mem} {w w1 : World} {o : Obj} {e : Ent} (hm : MR g H w) (hh : w1.heap = w.heap.push o) (hos : w1.os = w.os) (htp : w1.tape = w.tape) (hout : w1.output = w.output)
  (he : ∀ g' : Gh, Gle H.length g g' → g'.mu H.length = ⟨w.heap.size, 0, 0⟩ → g'.ow w.heap.size = some H.length → (∀ o, g'.ro w.heap.size o = none) → w1.heap[w.heap.size]? = some o → EntR g' (H.length + 1) w1 H.length e) :
  MR (g.addE H.length ⟨w.heap.size, 0, 0⟩) (H ++ [e]) w1 ∧ Ev H.length g w (g.addE H.length ⟨w.heap.size, 0, 0⟩) w1 := by
 have old : ∀ {b : Nat}, b < w.heap.size → w1.heap[b]? = w.heap[b]? := fun {b} h => by rw [hh, Array.getElem?_push, if_neg (by omega)]
 have hsz : w1.heap.size = w.heap.size + 1 := by rw [hh, Array.size_push]
 have hgle : Gle H.length g (g.addE H.length ⟨w.heap.size, 0, 0⟩) := ⟨fun _ _ _ h => h, fun id hid => by simp only [Gh.addE]; rw [if_neg (by omega)]⟩
 refine ⟨⟨fun b o v hro => ?_, fun id x hx => ?_, fun b id ho => ?_⟩, ⟨hgle, fun b hb ho => ⟨?_, old hb⟩, by rw [hsz]; omega, hos, htp, hout⟩⟩
 ·have := hm.ro b o v hro
  rw [cell_of (old (block_lt this))]; exact this
 ·rw [List.length_append, List.length_singleton]
  rcases get_snoc hx with hx | ⟨rfl, rfl⟩
  ·refine (hm.ent id x hx).keep (lt_of_get hx) hgle (by omega) fun b hown => ?_
   have hb := (hm.ow _ _ hown).1
   refine ⟨?_, fun _ => rfl, old hb⟩
   simp only [Gh.addE]; rw [if_neg (by omega)]; exact hown
  ·refine he _ hgle (by simp [Gh.addE]) (by simp [Gh.addE]) (fun o => ?_) (by rw [hh, Array.getElem?_push, if_pos rfl])
   cases hro : g.ro w.heap.size o with
   | none => exact hro
   | some v => have := hm.ro_lt hro; omega
 ·simp only [Gh.addE] at ho
  by_cases hb : b = w.heap.size
  ·rw [if_pos hb] at ho; cases ho; exact ⟨by rw [hsz]; omega, by simp⟩
  ·rw [if_neg hb] at ho
   have := hm.ow b id ho
   exact ⟨by rw [hsz]; omega, by simp; omega⟩
 ·simp only [Gh.addE]; rw [if_neg (by omega)]; exact ho
section
variable {β : Type} {kd : IntKind} {v : β → AV}
abbrev ent (kd : IntKind) (v : β → AV) (l : List (Int × β)) : List (Value × AV) := l.map fun y => (.int kd y.1, v y.2)
theorem ent_keys {l : List (Int × β)} : (ent kd v l).Pairwise (fun x y => x.1 ≠ y.1) ↔ l.Pairwise fun x y => x.1 ≠ y.1 := by
 rw [List.pairwise_map]
 constructor <;> intro h <;> refine h.imp fun hab e => hab ?_
 ·rw [e]
 ·injection e
theorem mget_some {l : List (Int × β)} {k : Int} {b : β} (h : mget l k = some b) : (k, b) ∈ l := by
 unfold mget at h
 cases hf : l.find? fun y => y.1 == k with
 | none => rw [hf] at h; cases h
 | some y =>
  rw [hf] at h
  obtain ⟨y1, y2⟩ := y
  simp only [Option.map_some, Option.some.injEq] at h
  have := List.find?_some hf
  simp at this
  subst this h
  exact List.mem_of_find?_eq_some hf
theorem mget_none {l : List (Int × β)} {k : Int} (h : mget l k = none) : ∀ b, (k, b) ∉ l := fun b hb => by
 unfold mget at h
 rw [Option.map_eq_none_iff, List.find?_eq_none] at h
 exact h _ hb (by simp)
theorem mget_of_mem {l : List (Int × β)} (hk : l.Pairwise fun x y => x.1 ≠ y.1) {k : Int} {b : β} (h : (k, b) ∈ l) : mget l k = some b := by
 cases hg : mget l k with
 | none => exact absurd h (mget_none hg b)
 | some c =>
  have hc := mget_some hg
  have : ∀ {l : List (Int × β)}, l.Pairwise (fun x y => x.1 ≠ y.1) → (k, b) ∈ l → (k, c) ∈ l → b = c := fun {l} hp => by
   induction l with
   | nil => intro h; cases h
   | cons y l ih =>
    intro h1 h2
    rw [List.pairwise_cons] at hp
    rcases List.mem_cons.1 h1 with e1 | q1
    ·rcases List.mem_cons.1 h2 with e2 | q2
     ·rw [← e1] at e2; cases e2; rfl
     ·exact absurd (by rw [← e1]) (hp.1 _ q2)
    ·rcases List.mem_cons.1 h2 with e2 | q2
     ·exact absurd (by rw [← e2]) (hp.1 _ q1)
     ·exact ih hp.2 q1 q2
  rw [this hk h hc]
theorem mset_mem {l : List (Int × β)} {k : Int} {b : β} {y : Int × β} : y ∈ mset l k b ↔ y = (k, b) ∨ (y ∈ l ∧ y.1 ≠ k) := by
 unfold mset
 split
 ·rename_i ha
  rw [List.any_eq_true] at ha
  obtain ⟨z, hz, hzk⟩ := ha
  rw [List.mem_map]
  constructor
  ·rintro ⟨x, hx, rfl⟩
   split
   ·exact .inl rfl
   ·rename_i hne; exact .inr ⟨hx, by simpa using hne⟩
  ·rintro (rfl | ⟨h1, h2⟩)
   ·exact ⟨z, hz, by rw [if_pos hzk]⟩
   ·exact ⟨y, h1, by rw [if_neg (by simpa using h2)]⟩
 ·rename_i ha
  rw [List.mem_append, List.mem_singleton]
  constructor
  ·rintro (h | h)
   ·refine .inr ⟨h, fun e => ha ?_⟩
    rw [List.any_eq_true]; exact ⟨y, h, by simpa using e⟩
   ·exact .inl h
  ·rintro (h | h)
   ·exact .inr h
   ·exact .inl h.1
theorem mset_keys {l : List (Int × β)} (hk : l.Pairwise fun x y => x.1 ≠ y.1) (k : Int) (b : β) : (mset l k b).Pairwise fun x y => x.1 ≠ y.1 := by
 unfold mset
 split
 ·rw [List.pairwise_map]
  refine hk.imp fun {x y} h => ?_
  by_cases hx : x.1 = k <;> by_cases hy : y.1 = k
  ·exact absurd (hx.trans hy.symm) h
  ·simp [hx, hy]; exact Ne.symm hy
  ·simp [hx, hy]
  ·simp [hx, hy]; exact h
 ·rename_i ha
  rw [List.pairwise_append]
  refine ⟨hk, List.pairwise_singleton _ _, fun x hx y hy => ?_⟩
  rw [List.mem_singleton] at hy; subst hy
  intro e
  refine ha ?_
  rw [List.any_eq_true]; exact ⟨x, hx, by simpa using e⟩
theorem mset_length_in {l : List (Int × β)} {k : Int} {b c : β} (h : (k, c) ∈ l) : (mset l k b).length = l.length := by
 unfold mset
 rw [if_pos (by rw [List.any_eq_true]; exact ⟨_, h, by simp⟩), List.length_map]
theorem mset_length_out {l : List (Int × β)} {k : Int} {b : β} (h : mget l k = none) : (mset l k b).length = l.length + 1 := by
 unfold mset
 rw [if_neg, List.length_append, List.length_singleton]
 rw [List.any_eq_true]
 rintro ⟨y, hy, e⟩
 have : y.1 = k := by simpa using e
 exact mget_none h y.2 (by rw [← this]; exact hy)
theorem MapR.isKey {g : Gh} {n : Nat} {l : List (Int × β)} {ents : Array MapEntry} {clock : Nat} (hm : MapR g n (ent kd v l) ents clock) : ∀ x ∈ ents.toList, IsKey (.int kd) x.key := fun x hx => by
 obtain ⟨a, ha⟩ := hm.all x hx
 obtain ⟨y, _, hy⟩ := List.mem_map.1 ha
 have : x.key = .int kd y.1 := (congrArg Prod.fst hy).symm
 rw [this]; rfl
theorem MapR.find {g : Gh} {n : Nat} {l : List (Int × β)} {ents : Array MapEntry} {clock : Nat} (hm : MapR g n (ent kd v l) ents clock) (k : Int) :
  (Instr.findNow (.int kd) (.int kd k) ents.toList 0 = some none ∧ mget l k = none ∧ ∀ x ∈ ents.toList, x.key ≠ .int kd k) ∨
  ∃ j e b, Instr.findNow (.int kd) (.int kd k) ents.toList 0 = some (some (j, e.val)) ∧ ents[j]? = some e ∧ e.key = .int kd k ∧ mget l k = some b ∧ VR g n (v b) e.val := by
 have hkey : IsKey (.int kd) (.int kd k) := rfl
 have hlk := ent_keys.1 hm.keys
 rcases MapKept.findNow_spec hkey ents.toList 0 hm.isKey with ⟨h1, h2⟩ | ⟨j, e, h1, h2, h3⟩
 ·refine .inl ⟨h1, ?_, h2⟩
  cases hg : mget l k with
  | none => rfl
  | some b =>
   obtain ⟨x, x1, x2, _⟩ := hm.get (.int kd k) (v b) (List.mem_map.2 ⟨(k, b), mget_some hg, rfl⟩)
   exact absurd x2 (h2 x x1)
 ·right
  rw [Nat.zero_add] at h1
  have he : e ∈ ents.toList := List.mem_of_getElem? h2
  obtain ⟨a, ha⟩ := hm.all e he
  obtain ⟨y, hy, hya⟩ := List.mem_map.1 ha
  obtain ⟨y1, b⟩ := y
  have e1 : y1 = k := by have := congrArg Prod.fst hya; rw [h3] at this; injection this
  subst e1
  obtain ⟨x, x1, x2, x3⟩ := hm.get (.int kd y1) (v b) (List.mem_map.2 ⟨(y1, b), hy, rfl⟩)
  have hx : x = e := by
   have hn := (MapKept.stamped_iff _ _).1 hm.st
   exact entry_eq_of_key hn.2.2 x1 he (x2.trans h3.symm)
  subst hx
  exact ⟨j, x, b, h1, by simpa using h2, h3, mget_of_mem hlk hy, x3⟩
theorem push_toList {ents : Array MapEntry} {x y : MapEntry} : y ∈ (ents.push x).toList ↔ y ∈ ents.toList ∨ y = x := by simp
theorem MapR.push {g : Gh} {n : Nat} {l : List (Int × β)} {ents : Array MapEntry} {clock : Nat} (hm : MapR g n (ent kd v l) ents clock) {k : Int} (hk : ∀ x ∈ ents.toList, x.key ≠ .int kd k) (hg : mget l k = none) {b : β} {u : Value} (hv : VR g n (v b) u) :
  MapR g n (ent kd v (mset l k b)) (ents.push ⟨.int kd k, u, clock⟩) (clock + 1) := by
 refine ⟨MapKept.stamped_push hm.st hk, ?_, ent_keys.2 (mset_keys (ent_keys.1 hm.keys) k b), fun k' a ha => ?_, fun x hx => ?_⟩
 ·rw [Array.size_push, List.length_map, mset_length_out hg, hm.size, List.length_map]
 ·obtain ⟨y, hy, hya⟩ := List.mem_map.1 ha
  cases hya
  rcases mset_mem.1 hy with rfl | ⟨h1, h2⟩
  ·exact ⟨_, push_toList.2 (.inr rfl), rfl, hv⟩
  ·obtain ⟨x, x1, x2, x3⟩ := hm.get _ _ (List.mem_map.2 ⟨y, h1, rfl⟩)
   exact ⟨x, push_toList.2 (.inl x1), x2, x3⟩
 ·rcases push_toList.1 hx with hx | rfl
  ·obtain ⟨a, ha⟩ := hm.all x hx
   obtain ⟨y, hy, hya⟩ := List.mem_map.1 ha
   refine ⟨a, List.mem_map.2 ⟨y, mset_mem.2 (.inr ⟨hy, fun e => hk x hx ?_⟩), hya⟩⟩
   have := (congrArg Prod.fst hya).symm
   simp only at this
   rw [this, e]
  ·exact ⟨v b, List.mem_map.2 ⟨(k, b), mset_mem.2 (.inl rfl), rfl⟩⟩
theorem MapR.modify {g : Gh} {n : Nat} {l : List (Int × β)} {ents : Array MapEntry} {clock : Nat} (hm : MapR g n (ent kd v l) ents clock) {k : Int} {j : Nat} {e : MapEntry} (hj : ents[j]? = some e) (he : e.key = .int kd k) {b c : β} (hg : mget l k = some c) {u : Value} (hv : VR g n (v b) u) :
  MapR g n (ent kd v (mset l k b)) (ents.modify j fun e' => { e' with key := .int kd k, val := u }) clock := by
 have hkeyf : ∀ e', ents[j]? = some e' → ({ e' with key := .int kd k, val := u } : MapEntry).key = e'.key := fun e' h => by rw [hj] at h; cases h; exact he.symm
 have hn := (MapKept.stamped_iff _ _).1 hm.st
 have hej : e ∈ ents.toList := Array.mem_toList_iff.2 (Array.mem_of_getElem? hj)
 have hmem : ∀ x, x ∈ (ents.modify j fun e' => { e' with key := .int kd k, val := u }).toList ↔ x = { e with key := .int kd k, val := u } ∨ (x ∈ ents.toList ∧ x.key ≠ .int kd k) := fun x => by
  rw [Array.mem_toList_iff, Array.mem_iff_getElem?]
  constructor
  ·rintro ⟨i, hi⟩
   rw [Array.getElem?_modify] at hi
   by_cases hij : j = i
   ·subst hij
    rw [if_pos rfl, hj] at hi
    simp only [Option.map_some, Option.some.injEq] at hi
    exact .inl hi.symm
   ·rw [if_neg hij] at hi
    refine .inr ⟨Array.mem_toList_iff.2 (Array.mem_of_getElem? hi), fun e2 => hij ?_⟩
    have h1 : ents.toList[j]? = some e := by simpa using hj
    have h2 : ents.toList[i]? = some x := by simpa using hi
    have hp := List.pairwise_iff_getElem.1 hn.2.2
    have l1 := lt_of_get h1
    have l2 := lt_of_get h2
    rw [List.getElem?_eq_getElem l1] at h1
    rw [List.getElem?_eq_getElem l2] at h2
    have k1 := congrArg MapEntry.key (Option.some.inj h1)
    have k2 := congrArg MapEntry.key (Option.some.inj h2)
    rcases Nat.lt_trichotomy j i with h3 | h3 | h3
    ·exact absurd (k1.trans (he.trans (e2.symm.trans k2.symm))) (hp _ _ l1 l2 h3)
    ·exact h3
    ·exact absurd (k2.trans (e2.trans (he.symm.trans k1.symm))) (hp _ _ l2 l1 h3)
  ·rintro (rfl | ⟨h1, h2⟩)
   ·exact ⟨j, by rw [Array.getElem?_modify, if_pos rfl, hj]; rfl⟩
   ·obtain ⟨i, hi⟩ := Array.mem_iff_getElem?.1 (Array.mem_toList_iff.1 h1)
    refine ⟨i, ?_⟩
    rw [Array.getElem?_modify, if_neg]
    ·exact hi
    ·intro e2; subst e2; rw [hj] at hi; cases hi; exact h2 he
 refine ⟨MapKept.stamped_modify hm.st _ _ (fun _ _ => rfl) (fun e' _ h => hkeyf e' h), ?_, ent_keys.2 (mset_keys (ent_keys.1 hm.keys) k b), fun k' a ha => ?_, fun x hx => ?_⟩
 ·rw [Array.size_modify, List.length_map, mset_length_in (mget_some hg), hm.size, List.length_map]
 ·obtain ⟨y, hy, hya⟩ := List.mem_map.1 ha
  cases hya
  rcases mset_mem.1 hy with rfl | ⟨h1, h2⟩
  ·exact ⟨_, (hmem _).2 (.inl rfl), rfl, hv⟩
  ·obtain ⟨x, x1, x2, x3⟩ := hm.get _ _ (List.mem_map.2 ⟨y, h1, rfl⟩)
   exact ⟨x, (hmem _).2 (.inr ⟨x1, fun e2 => h2 (by rw [x2] at e2; injection e2)⟩), x2, x3⟩
 ·rcases (hmem x).1 hx with rfl | ⟨h1, h2⟩
  ·exact ⟨v b, List.mem_map.2 ⟨(k, b), mset_mem.2 (.inl rfl), rfl⟩⟩
  ·obtain ⟨a, ha⟩ := hm.all x h1
   obtain ⟨y, hy, hya⟩ := List.mem_map.1 ha
   refine ⟨a, List.mem_map.2 ⟨y, mset_mem.2 (.inr ⟨hy, fun e => h2 ?_⟩), hya⟩⟩
   have := (congrArg Prod.fst hya).symm
   simp only at this
   rw [this, e]
theorem MapR.nil (g : Gh) (n : Nat) : MapR g n [] #[] 0 := ⟨MapKept.stamped_empty 0, rfl, .nil, (fun k a h => by cases h), (fun x h => by simp at h)⟩
end
section
variable {P : Program} {fr : Frm} {H : Mem} {dst : Option Nat} {ty : TypeId} {pos : String} {after : Array Edge} {guard : Option (Nat × Bool)}
theorem o_makeMap {t : TypeId} {H1 : Mem} (hM : H1 = H ++ [.map []]) : OpS P ⟨dst, .makeMap t none, ty, pos, after, guard⟩ fr H (Det (.mp H.length) H1) := fun g w ev hop hm => by
 have : (execOp ev ⟨dst, .makeMap t none, ty, pos, after, guard⟩).run P w = .ok (.value (.map (some w.heap.size))) (w.alloc (.map #[] 0)) := by
  simp only [execOp, Instr.makeMap, Option.map_none, Sem.run_bind, run_newObj]; rfl
 rw [this]
 obtain ⟨m1, m2⟩ := hm.pushO (w1 := w.alloc (.map #[] 0)) (e := .map []) rfl rfl rfl rfl fun g' hg hmu how hro hb => by
  simp only [EntR, hmu]
  exact ⟨how, hro, #[], 0, hb, .nil _ _⟩
 refine ⟨_, _, _, ⟨.refl _, hM.symm⟩, ?_, m1, m2, by simp⟩
 have := VR.mp (g := g.addE H.length ⟨w.heap.size, 0, 0⟩) (n := (H ++ [Ent.map []]).length) H.length (by simp)
 simpa [Gh.addE] using this
variable {β : Type} {kd : IntKind} {v : β → AV}
theorem opS_lookup {t kt e : TypeId} {x y : Operand} {ok : Bool} {K : AV → Mem → Prop} {id : Nat} {l : List (Int × β)} {n : Int} {sz by_ : Nat} {z : Value} (ht : P.underlying t = some (.map kt e)) (hk : P.underlying kt = some (.int kd)) (hti : tinf P e = some (sz, by_, some z))
  (hx : aev fr x = .mp id) (hid : H[id]? = some (.map (ent kd v l))) (hy : aev fr y = .sc (.int kd n))
  (h : match mget l n, ok with | some b, false => K (v b) H | some b, true => K (.tp [v b, .sc (.bool true)]) H | none, false => K (.sc z) H | none, true => K (.tp [.sc z, .sc (.bool false)]) H) :
  OpS P ⟨dst, .lookup t x y ok, ty, pos, after, guard⟩ fr H K := fun g w ev hop hm => by
 have h1 := hop x (by simp [Op.operands])
 have h2 := hop y (by simp [Op.operands])
 rw [hx] at h1
 rw [hy] at h2
 have e2 := VR_sc h2
 obtain ⟨e1, hlt⟩ : ev x = .map (some (g.mu id).b) ∧ id < H.length := by
  generalize ev x = u at h1
  cases h1 with
  | mp _ hid => exact ⟨rfl, hid⟩
 obtain ⟨q1, q2, ents, clock, hb, hmr⟩ := hm.ent id _ hid
 have hkey : IsKey (.int kd) (.int kd n) := rfl
 rcases hmr.find n with ⟨f1, f2, _⟩ | ⟨j, en, b, f1, f2, f3, f4, f5⟩
 ·have hr : (execOp ev ⟨dst, .lookup t x y ok, ty, pos, after, guard⟩).run P w = .ok (.value (if ok then .tuple #[z, .bool false] else z)) w := by
   simp only [execOp, Instr.lookup, Sem.run_bind, e1, e2, run_underlying ht, Result.andThen_ok, MapKept.run_getObj_map hb, Sem.run_pure, MapKept.run_checkKey hk hkey, MapKept.run_findKey hk f1, run_zeroValue hti]
  rw [hr]
  rw [f2] at h
  cases ok with
  | false => exact sr_here hm (.sc z) h
  | true => exact sr_here hm (.tp _ _ rfl fun i c hc => by
    match i with
    | 0 => simp at hc; subst hc; exact .sc _
    | 1 => simp at hc; subst hc; exact .sc _
    | i + 2 => simp at hc) h
 ·have hr : (execOp ev ⟨dst, .lookup t x y ok, ty, pos, after, guard⟩).run P w = .ok (.value (if ok then .tuple #[en.val, .bool true] else en.val)) w := by
   simp only [execOp, Instr.lookup, Sem.run_bind, e1, e2, run_underlying ht, Result.andThen_ok, MapKept.run_getObj_map hb, Sem.run_pure, MapKept.run_checkKey hk hkey, MapKept.run_findKey hk f1]
  rw [hr]
  rw [f4] at h
  cases ok with
  | false => exact sr_here hm f5 h
  | true => exact sr_here hm (.tp _ _ rfl fun i c hc => by
    match i with
    | 0 => simp at hc; subst hc; exact f5
    | 1 => simp at hc; subst hc; exact .sc _
    | i + 2 => simp at hc) h
theorem o_lookupD {t kt e : TypeId} {x y : Operand} {id : Nat} {l : List (Int × β)} {n : Int} {sz by_ : Nat} {z : Value} {b : β} (ht : P.underlying t = some (.map kt e)) (hk : P.underlying kt = some (.int kd)) (hti : tinf P e = some (sz, by_, some z))
  (hx : aev fr x = .mp id) (hid : H[id]? = some (.map (ent kd v l))) (hy : aev fr y = .sc (.int kd n)) (hr : AVLe (.sc z) (v b)) : OpS P ⟨dst, .lookup t x y false, ty, pos, after, guard⟩ fr H (Det (v ((mget l n).getD b)) H) :=
 opS_lookup ht hk hti hx hid hy (by
  cases hg : mget l n with
  | none => exact ⟨hr, rfl⟩
  | some c => exact ⟨.refl _, rfl⟩)
theorem o_mapUpdate {t kt e : TypeId} {x y u : Operand} {id : Nat} {l : List (Int × β)} {n : Int} {b : β} {H1 : Mem} (ht : P.underlying t = some (.map kt e)) (hk : P.underlying kt = some (.int kd))
  (hx : aev fr x = .mp id) (hid : H[id]? = some (.map (ent kd v l))) (hy : aev fr y = .sc (.int kd n)) (hu : AVLe (aev fr u) (v b)) (hM : H1 = H.set id (.map (ent kd v (mset l n b)))) :
  OpS P ⟨dst, .mapUpdate t x y u, ty, pos, after, guard⟩ fr H (Det undefA H1) := fun g w ev hop hm => by
 have h1 := hop x (by simp [Op.operands])
 have h2 := hop y (by simp [Op.operands])
 have h3 := hu _ _ _ (hop u (by simp [Op.operands]))
 rw [hx] at h1
 rw [hy] at h2
 have e2 := VR_sc h2
 obtain ⟨e1, hlt⟩ : ev x = .map (some (g.mu id).b) ∧ id < H.length := by
  generalize ev x = u at h1
  cases h1 with
  | mp _ hid => exact ⟨rfl, hid⟩
 obtain ⟨q1, q2, ents, clock, hb, hmr⟩ := hm.ent id _ hid
 have hkey : IsKey (.int kd) (.int kd n) := rfl
 have hbl := (hm.ow _ _ q1).1
 have fin : ∀ ents' clock', MapR g H.length (ent kd v (mset l n b)) ents' clock' → SR H.length g w (Det undefA H1) undef { w with heap := w.heap.setIfInBounds (g.mu id).b (.map ents' clock') } := fun ents' clock' hmr' => by
  have hupd : Upd w { w with heap := w.heap.setIfInBounds (g.mu id).b (.map ents' clock') } (g.mu id).b (.map ents' clock') := ⟨rfl, rfl, rfl, rfl⟩
  obtain ⟨m1, m2⟩ := hm.putO (e' := .map (ent kd v (mset l n b))) hlt q1 q2 hupd ⟨q1, q2, ents', clock', hupd.same hbl, hmr'⟩
  exact ⟨undefA, _, g, ⟨.refl _, hM.symm⟩, .sc _, m1, m2, by simp⟩
 rcases hmr.find n with ⟨f1, f2, f3⟩ | ⟨j, en, c, f1, f2, f3, f4, f5⟩
 ·have hr : (execOp ev ⟨dst, .mapUpdate t x y u, ty, pos, after, guard⟩).run P w = .ok .skip { w with heap := w.heap.setIfInBounds (g.mu id).b (.map (ents.push ⟨.int kd n, ev u, clock⟩) (clock + 1)) } := by
   simp only [execOp, Instr.mapUpdate, Sem.run_bind, e1, e2, run_underlying ht, Result.andThen_ok, MapKept.run_getObj_map hb, MapKept.run_checkKey hk hkey, MapKept.run_findKey hk f1, MapKept.run_setObj_map _ hb, Sem.run_pure]
  rw [hr]
  exact fin _ _ (hmr.push f3 f2 h3)
 ·have hr : (execOp ev ⟨dst, .mapUpdate t x y u, ty, pos, after, guard⟩).run P w = .ok .skip { w with heap := w.heap.setIfInBounds (g.mu id).b (.map (ents.modify j fun e' => { e' with key := .int kd n, val := ev u }) clock) } := by
   simp only [execOp, Instr.mapUpdate, Sem.run_bind, e1, e2, run_underlying ht, Result.andThen_ok, MapKept.run_getObj_map hb, MapKept.run_checkKey hk hkey, MapKept.run_findKey hk f1, f2, f3, Option.map_some, Option.getD_some, MapKept.run_keyThatStays hkey, MapKept.run_setObj_map _ hb, Sem.run_pure]
  rw [hr]
  exact fin _ _ (hmr.modify f2 f3 f4 h3)
end
end Go.Proofs.YtaaamoicidfgcaaGreat.Am
namespace Go.Proofs.YtaaamoicidfgcaaGreat.Am
open Go
open Go.ChangeMaps (setBlock)
open Go.MapKept (Stamped IsKey)
set_option linter.unusedVariables false
structure MapP (es : List (Value × AV)) (ents : Array MapEntry) (clock : Nat) : Prop where
 st : Stamped ents clock
 keys : es.Pairwise fun x y => x.1 ≠ y.1
 key : ∀ x, x ∈ ents.toList → ∃ a, (x.key, a) ∈ es
 ent : ∀ k a, (k, a) ∈ es → ∃ x, x ∈ ents.toList ∧ x.key = k
theorem MapR.p {g : Gh} {n : Nat} {es : List (Value × AV)} {ents : Array MapEntry} {clock : Nat} (h : MapR g n es ents clock) : MapP es ents clock :=
 ⟨h.st, h.keys, h.all, fun k a ha => let ⟨x, x1, x2, _⟩ := h.get k a ha; ⟨x, x1, x2⟩⟩
section
variable {P : Program} {fr : Frm} {H : Mem} {dst : Option Nat} {ty : TypeId} {pos : String} {after : Array Edge} {guard : Option (Nat × Bool)}
end
section
variable {β : Type}
end
end Go.Proofs.YtaaamoicidfgcaaGreat.Am
namespace Go.Proofs.YtaaamoicidfgcaaGreat.Am
open Go
set_option linter.unusedVariables false
section
variable {P : Program} {fr : Frm} {H : Mem} {dst : Option Nat} {ty : TypeId} {pos : String} {after : Array Edge} {guard : Option (Nat × Bool)}
end
end Go.Proofs.YtaaamoicidfgcaaGreat.Am
namespace Go.Proofs.YtaaamoicidfgcaaGreat.Am
open Go
set_option linter.unusedVariables false
section
variable {P : Program} {fr : Frm} {H : Mem} {K : AV → Mem → Prop} {dst : Option Nat} {ty : TypeId} {pos : String} {after : Array Edge} {guard : Option (Nat × Bool)}
end
end Go.Proofs.YtaaamoicidfgcaaGreat.Am
namespace Go.Proofs.YtaaamoicidfgcaaGreat.Am
open Go
set_option linter.unusedVariables false
section
variable {P : Program} {fr : Frm} {H : Mem} {K : AV → Mem → Prop} {dst : Option Nat} {ty : TypeId} {pos : String} {after : Array Edge} {guard : Option (Nat × Bool)}
end
end Go.Proofs.YtaaamoicidfgcaaGreat.Am
namespace Go.Proofs.YtaaamoicidfgcaaGreat.Am
open Go
abbrev kI (n : Int) : AV := .sc (.int .i64 n)
abbrev kY (n : Int) : AV := .sc (.int .u8 n)
abbrev kB (b : Bool) : AV := .sc (.bool b)
abbrev w64 (n : Int) : Int := IntKind.wrap .i64 n
theorem eqM {M M1 : Mem} {e : Nat} {x : Ent} (hM : M1 = M) (h : M[e]? = some x) : M1[e]? = some x := hM ▸ h
theorem eqP {H M M1 : Mem} (hM : M1 = M) (h : H <+: M) : H <+: M1 := hM ▸ h
theorem rf {a : AV} : AVLe a a := .refl a
theorem sI {α : Type} {a b : α} (h : some a = some b) : a = b := Option.some.inj h
theorem sz (n : Nat) : n + 1 ≠ 0 := Nat.succ_ne_zero n
theorem nM (x : Mem) : ∃ z, z = x := ⟨x, rfl⟩
theorem nE (x : Nat) : ∃ z, z = x := ⟨x, rfl⟩
theorem loE {H M : Mem} {e : Nat} (he : e = M.length) (hp : H <+: M) : H.length ≤ e := by rw [he]; exact pre_len hp
theorem neE {M : Mem} {e e2 : Nat} {x : Ent} (he : e2 = M.length) (f : M[e]? = some x) : e ≠ e2 := by rw [he]; exact Nat.ne_of_lt (lt_of_get f)
theorem nwE {M M1 : Mem} {e : Nat} {x : Ent} (hM : M1 = M ++ [x]) (he : e = M.length) : M1[e]? = some x := by rw [hM, he]; exact get_new
section
variable {P : Program} {ops : Array Oper} {o : Oper} {rest : List Oper} {fr : Frm} {H : Mem} {K : Frm → Mem → Prop} {J : Mem → Prop} {T : Bool} {B : Mem} {cs : List Nat}
theorem OD (r : AV) (H1 : Mem) (hg : agd ops fr o = some true) (h : OpS P o fr H (Det r H1)) (h2 : OpsS P ops rest (fr.put o.dst r) H1 K) : OpsS P ops (o :: rest) fr H K := OpsS_det r H1 hg h h2
theorem DD0 (r : AV) (hg : agd ops fr o = some true) (h : ∀ H0 : Mem, OpS P o fr H0 (Det r H0)) (h2 : DRun P J T ops cs rest (fr.put o.dst r) B H K) : DRun P J T ops (0 :: cs) (o :: rest) fr B H K := DRun_det0 r hg h h2
theorem DD4 (r : AV) (hg : agd ops fr o = some true) (h : ∀ H0 : Mem, J H0 → OpS P o fr H0 (Det r H0)) (h2 : DRun P J T ops cs rest (fr.put o.dst r) B H K) : DRun P J T ops (0 :: cs) (o :: rest) fr B H K := DRun_det4 r hg h h2
theorem DD1 (r : AV) (hg : agd ops fr o = some true) (h : ∀ H0 : Mem, B <+: H0 → OpS P o fr H0 (Det r H0)) (h2 : DRun P J T ops cs rest (fr.put o.dst r) B H K) : DRun P J T ops (1 :: cs) (o :: rest) fr B H K := DRun_det1 r hg h h2
theorem DD2 (r : AV) (H1 : Mem) (hg : agd ops fr o = some true) (h : OpS P o fr H (Det r H1)) (hJ : J H1) (h2 : DRun P J T ops cs rest (fr.put o.dst r) H1 H1 K) : DRun P J T ops (2 :: cs) (o :: rest) fr B H K := DRun_det2 r H1 hg h hJ h2
theorem DD3 (r : AV) (H1 : Mem) (hg : agd ops fr o = some true) (h : OpS P o fr H (Det r H1)) (hp : H <+: H1) (hJ : J H1) (h2 : DRun P J T ops cs rest (fr.put o.dst r) B H1 K) : DRun P J T ops (3 :: cs) (o :: rest) fr B H K := DRun_det3 r H1 hg h hp hJ h2
end
section
variable {P : Program} {ops : Array Oper} {rest : List Oper} {fr : Frm} {H : Mem} {K : Frm → Mem → Prop} {dst : Option Nat} {ty : TypeId} {pos : String} {after : Array Edge} {guard : Option (Nat × Bool)}
end
end Go.Proofs.YtaaamoicidfgcaaGreat.Am
namespace Go.Proofs.YtaaamoicidfgcaaGreat.Am
open Go
set_option linter.unusedVariables false
theorem execOp_same {ρ : Operand → Value} {o o' : Oper} (h1 : o'.dst = o.dst) (h2 : o'.op = o.op) (h3 : o'.type = o.type) (h4 : o'.pos = o.pos) : execOp ρ o' = execOp ρ o := by
 obtain ⟨d, x, t, ps, a, g⟩ := o
 obtain ⟨d', x', t', ps', a', g'⟩ := o'
 simp only at h1 h2 h3 h4
 subst h1 h2 h3 h4
 rfl
theorem wpOp_sim {P : Program} {Q : Exit → Act → World → Prop} {l l' : List Oper} {i j : Nat} {o o' : Oper} (ho : l[i]? = some o) (g1 : l'[j]? = some o') (g2 : o'.dst = o.dst) (g3 : o'.op = o.op) (g4 : o'.type = o.type) (g5 : o'.pos = o.pos) {a : Act} {w : World}
  (g6 : Region.wanted o' (yielded l'.toArray a.tmps) = Region.wanted o (yielded l.toArray a.tmps)) {K K' : Act → World → Prop} (hK : ∀ a w, K' a w → K a w) (hw : wpOp P l'.toArray Q j K' a w) : wpOp P l.toArray Q i K a w := by
 unfold wpOp at hw ⊢
 have e1 : l.toArray[i]? = some o := by simpa using ho
 have e2 : l'.toArray[j]? = some o' := by simpa using g1
 rw [e1]
 rw [e2] at hw
 simp only at hw ⊢
 rw [g6] at hw
 have ex : ∀ ρ, execOp ρ o' = execOp ρ o := fun ρ => execOp_same g2 g3 g4 g5
 split
 ·rename_i hwt
  rw [if_pos hwt] at hw
  rcases hw with hw | hw
  ·left
   have hw2 := Oper.wp_mono hK hw
   unfold Oper.wp at hw2 ⊢
   rw [ex] at hw2
   unfold Oper.upon at hw2 ⊢
   rw [g2] at hw2
   exact hw2
  ·right
   refine ⟨?_, hw.2⟩
   have := hw.1
   unfold Oper.asks at this ⊢
   rw [ex] at this
   exact this
 ·rename_i hwt
  rw [if_neg hwt] at hw
  rw [← g2]
  exact hK _ _ hw
theorem wpAny_sim {P : Program} {Q : Exit → Act → World → Prop} {l l' : List Oper} (hlen : l'.length = l.length) (σ : Nat → Nat) (hσ : ∀ i, σ (σ i) = i) (C : Array Bool → Prop) (hC : ∀ (x : Array Bool) i, C x → C (x.setIfInBounds i true))
  (hop : ∀ (i : Nat) o, l[i]? = some o → ∃ o', l'[σ i]? = some o' ∧ o'.dst = o.dst ∧ o'.op = o.op ∧ o'.type = o.type ∧ o'.pos = o.pos ∧ ∀ tm, Region.wanted o' (yielded l'.toArray tm) = Region.wanted o (yielded l.toArray tm))
  (hrd : ∀ x x' : Array Bool, C x → (∀ i, x'.getD i false = x.getD (σ i) false) → x.size = l.length → x'.size = l.length → ∀ i, i ∈ Region.ready .any l.toArray x ↔ σ i ∈ Region.ready .any l'.toArray x') :
  ∀ (fuel : Nat) (x x' : Array Bool) (a : Act) (w : World), C x → (∀ i, x'.getD i false = x.getD (σ i) false) → x.size = l.length → x'.size = l.length → wpAny P .any l'.toArray Q fuel x' a w → wpAny P .any l.toArray Q fuel x a w := by
 have hnil : ∀ x x' : Array Bool, C x → (∀ i, x'.getD i false = x.getD (σ i) false) → x.size = l.length → x'.size = l.length → (Region.ready .any l.toArray x = [] ↔ Region.ready .any l'.toArray x' = []) := fun x x' h1 h2 h3 h4 => by
  constructor
  ·intro h
   apply List.eq_nil_iff_forall_not_mem.2
   intro j hj
   have := (hrd x x' h1 h2 h3 h4 (σ j)).2 (by rw [hσ]; exact hj)
   rw [h] at this; cases this
  ·intro h
   apply List.eq_nil_iff_forall_not_mem.2
   intro j hj
   have := (hrd x x' h1 h2 h3 h4 j).1 hj
   rw [h] at this; cases this
 intro fuel
 induction fuel with
 | zero =>
  intro x x' a w h1 h2 h3 h4 h
  exact ⟨(hnil x x' h1 h2 h3 h4).2 h.1, h.2⟩
 | succ fuel ih =>
  intro x x' a w h1 h2 h3 h4 h
  refine ⟨fun hr => h.1 ((hnil x x' h1 h2 h3 h4).1 hr), fun i hi => ?_⟩
  have hi' := (hrd x x' h1 h2 h3 h4 i).1 hi
  have hw := h.2 _ hi'
  obtain ⟨hf, o, ho, _⟩ := mem_ready.1 hi
  obtain ⟨hf', o2, ho2, _⟩ := mem_ready.1 hi'
  have ho : l[i]? = some o := by simpa using ho
  obtain ⟨o', g1, g2, g3, g4, g5, g6⟩ := hop i o ho
  have hil : i < l.length := (List.getElem?_eq_some_iff.1 ho).1
  have hil' : σ i < l.length := by rw [← hlen]; exact (List.getElem?_eq_some_iff.1 g1).1
  have hK : ∀ a w, wpAny P .any l'.toArray Q fuel (x'.setIfInBounds (σ i) true) a w → wpAny P .any l.toArray Q fuel (x.setIfInBounds i true) a w := fun a w => by
   refine ih _ _ a w (hC _ _ h1) (fun j => ?_) (by simpa using h3) (by simpa using h4)
   by_cases e : j = σ i
   ·subst e
    rw [hσ]
    have q1 : σ i < x'.size := by omega
    have q2 : i < x.size := by omega
    simp [q1, q2]
   ·rw [getD_set_ne false (Ne.symm e), getD_set_ne false (fun e2 => e (by rw [e2, hσ])), h2]
  unfold wpOp at hw ⊢
  have e1 : l.toArray[i]? = some o := by simpa using ho
  have e2 : l'.toArray[σ i]? = some o' := by simpa using g1
  rw [e1]
  rw [e2] at hw
  simp only at hw ⊢
  rw [g6] at hw
  have ex : ∀ ρ, execOp ρ o' = execOp ρ o := fun ρ => execOp_same g2 g3 g4 g5
  split
  ·rename_i hwt
   rw [if_pos hwt] at hw
   rcases hw with hw | hw
   ·left
    have hw2 := Oper.wp_mono hK hw
    unfold Oper.wp at hw2 ⊢
    rw [ex] at hw2
    unfold Oper.upon at hw2 ⊢
    rw [g2] at hw2
    exact hw2
   ·right
    refine ⟨?_, hw.2⟩
    have := hw.1
    unfold Oper.asks at this ⊢
    rw [ex] at this
    exact this
  ·rename_i hwt
   rw [if_neg hwt] at hw
   rw [← g2]
   exact hK _ _ hw
theorem rdy {l : List Oper} {x : Array Bool} {i : Nat} : i ∈ Region.ready .any l.toArray x ↔ i < x.size ∧ x.getD i false = false ∧ ∃ o, l[i]? = some o ∧ ∀ e ∈ o.after, Region.binds .any e = true → x.getD e.on false = true := by
 rw [mem_ready]
 constructor
 ·rintro ⟨h, o, ho, he⟩
  have hi : i < x.size := by
   rcases Nat.lt_or_ge i x.size with q | q
   ·exact q
   ·simp [Nat.not_lt.2 q] at h
  exact ⟨hi, by simpa [hi] using h, o, by simpa using ho, he⟩
 ·rintro ⟨hi, h, o, ho, he⟩
  exact ⟨by simpa [hi] using h, o, by simpa using ho, he⟩
def swI (p i : Nat) : Nat := if i = p then p + 1 else if i = p + 1 then p else i
theorem swI_swI (p i : Nat) : swI p (swI p i) = i := by
 unfold swI
 by_cases h1 : i = p
 ·subst h1; simp
 ·by_cases h2 : i = p + 1
  ·subst h2; simp
  ·simp [h1, h2]
theorem swI_lo {p i : Nat} (h : i < p) : swI p i = i := by unfold swI; rw [if_neg (by omega), if_neg (by omega)]
theorem swI_hi {p i : Nat} (h : p + 2 ≤ i) : swI p i = i := by unfold swI; rw [if_neg (by omega), if_neg (by omega)]
theorem swI_p (p : Nat) : swI p p = p + 1 := by simp [swI]
theorem swI_q (p : Nat) : swI p (p + 1) = p := by simp [swI]
def swE (p : Nat) (e : Edge) : Edge := ⟨swI p e.on, e.ground⟩
def swO (p : Nat) (o : Oper) : Oper := ⟨o.dst, o.op, o.type, o.pos, (o.after.toList.map (swE p)).toArray, o.guard.map fun x => (swI p x.1, x.2)⟩
def addE (k : Nat) (o : Oper) : Oper := ⟨o.dst, o.op, o.type, o.pos, (o.after.toList ++ [(⟨k, .data⟩ : Edge)]).toArray, o.guard⟩
theorem wanted_same {l l' : List Oper} {σ : Nat → Nat} (hd : ∀ j, (l'[σ j]?).map Oper.dst = (l[j]?).map Oper.dst) {o o' : Oper} (hg : o'.guard = o.guard.map fun x => (σ x.1, x.2)) (tm : Array Value) :
  Region.wanted o' (yielded l'.toArray tm) = Region.wanted o (yielded l.toArray tm) := by
 have hy : ∀ j, yielded l'.toArray tm (σ j) = yielded l.toArray tm j := fun j => by
  have := hd j
  unfold yielded
  simp only [List.getElem?_toArray]
  cases h1 : l'[σ j]? with
  | none =>
   rw [h1] at this
   cases h2 : l[j]? with
   | none => rfl
   | some o => rw [h2] at this; cases this
  | some o' =>
   rw [h1] at this
   cases h2 : l[j]? with
   | none => rw [h2] at this; cases this
   | some o =>
    rw [h2] at this
    simp only [Option.map_some, Option.some.injEq] at this
    simp only [Option.bind_some, this]
 unfold Region.wanted
 rw [hg]
 cases o.guard with
 | none => rfl
 | some x => simp only [Option.map_some, hy]
section
variable {pre post : List Oper} {op oq : Oper}
theorem at_lo {r : List Oper} {i : Nat} (h : i < pre.length) : (pre ++ r)[i]? = pre[i]? := List.getElem?_append_left h
theorem at_p {r : List Oper} {o : Oper} : (pre ++ o :: r)[pre.length]? = some o := by simp
theorem at_q {r : List Oper} {o o2 : Oper} : (pre ++ o :: o2 :: r)[pre.length + 1]? = some o2 := by rw [List.getElem?_append_right (by omega)]; simp
theorem at_hi {r : List Oper} {o o2 : Oper} {i : Nat} (h : pre.length + 2 ≤ i) : (pre ++ o :: o2 :: r)[i]? = r[i - (pre.length + 2)]? := by
 rw [List.getElem?_append_right (by omega)]
 obtain ⟨k, rfl⟩ : ∃ k, i = pre.length + 2 + k := ⟨i - (pre.length + 2), by omega⟩
 rw [show pre.length + 2 + k - pre.length = k + 2 by omega, show pre.length + 2 + k - (pre.length + 2) = k by omega]
 rfl
theorem sim_A {P : Program} {Q : Exit → Act → World → Prop} : ∀ (fuel : Nat) (x : Array Bool) (a : Act) (w : World), x.getD pre.length false = true → x.size = (pre ++ op :: oq :: post).length →
  wpAny P .any (pre ++ op :: addE pre.length oq :: post).toArray Q fuel x a w → wpAny P .any (pre ++ op :: oq :: post).toArray Q fuel x a w := by
 have hd : ∀ j, ((pre ++ op :: addE pre.length oq :: post)[j]?).map Oper.dst = ((pre ++ op :: oq :: post)[j]?).map Oper.dst := fun j => by
  rcases Nat.lt_or_ge j pre.length with h | h
  ·rw [at_lo h, at_lo h]
  rcases Nat.lt_or_ge j (pre.length + 2) with h2 | h2
  ·rcases (show j = pre.length ∨ j = pre.length + 1 by omega) with rfl | rfl
   ·rw [at_p, at_p]
   ·rw [at_q, at_q]; rfl
  ·rw [at_hi h2, at_hi h2]
 intro fuel x a w h1 h2 h
 have key := wpAny_sim (P := P) (Q := Q) (l := pre ++ op :: oq :: post) (l' := pre ++ op :: addE pre.length oq :: post) (by simp) (fun i => i) (fun i => rfl) (fun x => x.getD pre.length false = true)
  (fun x i hx => by
   by_cases e : i = pre.length
   ·subst e; exact getD_set_true hx
   ·rw [getD_set_ne false e]; exact hx)
  (fun i o ho => by
   by_cases e : i = pre.length + 1
   ·subst e
    rw [at_q] at ho; cases ho
    exact ⟨addE pre.length oq, at_q, rfl, rfl, rfl, rfl, fun tm => wanted_same (σ := fun i => i) hd (by simp [addE]) tm⟩
   ·refine ⟨o, ?_, rfl, rfl, rfl, rfl, fun tm => wanted_same (σ := fun i => i) hd (by simp) tm⟩
    rcases Nat.lt_or_ge i pre.length with q | q
    ·rw [at_lo q] at ho ⊢; exact ho
    rcases Nat.lt_or_ge i (pre.length + 2) with q2 | q2
    ·obtain rfl : i = pre.length := by omega
     rw [at_p] at ho ⊢; exact ho
    ·rw [at_hi q2] at ho ⊢; exact ho)
  (fun x x' hx hr hs hs' i => by
   rw [rdy, rdy]
   have hsz : x'.size = x.size := by omega
   simp only [hr, hsz]
   refine and_congr_right fun _ => and_congr_right fun _ => ?_
   by_cases e : i = pre.length + 1
   ·subst e
    rw [at_q, at_q]
    constructor
    ·rintro ⟨o, ho, he⟩
     cases ho
     refine ⟨_, rfl, fun e he2 hb => ?_⟩
     simp only [addE, List.mem_toArray, List.mem_append, List.mem_singleton] at he2
     rcases he2 with he2 | rfl
     ·exact he e (Array.mem_toList_iff.1 he2) hb
     ·exact hx
    ·rintro ⟨o, ho, he⟩
     cases ho
     refine ⟨_, rfl, fun e he2 hb => he e ?_ hb⟩
     simp only [addE, List.mem_toArray, List.mem_append]
     exact .inl (Array.mem_toList_iff.2 he2)
   ·have : (pre ++ op :: addE pre.length oq :: post)[i]? = (pre ++ op :: oq :: post)[i]? := by
     rcases Nat.lt_or_ge i pre.length with q | q
     ·rw [at_lo q, at_lo q]
     rcases Nat.lt_or_ge i (pre.length + 2) with q2 | q2
     ·obtain rfl : i = pre.length := by omega
      rw [at_p, at_p]
     ·rw [at_hi q2, at_hi q2]
    rw [this])
  fuel x x a w h1 (fun i => rfl) h2 h2 h
 exact key
theorem sim_B {P : Program} {Q : Exit → Act → World → Prop} (ha : ∀ e ∈ op.after, Region.binds .any e = true → e.on < pre.length) (hb : oq.after = #[]) (hga : op.guard = none) (hgb : oq.guard = none)
  (hep : ∀ o ∈ pre, ∀ e ∈ o.after, Region.binds .any e = true → e.on < pre.length) (hgp : ∀ o ∈ pre, ∀ j b, o.guard = some (j, b) → j < pre.length) :
  ∀ (fuel : Nat) (x x' : Array Bool) (a : Act) (w : World), x.getD (pre.length + 1) false = true → (∀ i, x'.getD i false = x.getD (swI pre.length i) false) → x.size = (pre ++ op :: oq :: post).length → x'.size = (pre ++ op :: oq :: post).length →
  wpAny P .any (pre ++ oq :: addE pre.length op :: post.map (swO pre.length)).toArray Q fuel x' a w → wpAny P .any (pre ++ op :: oq :: post).toArray Q fuel x a w := by
 have hd : ∀ j, ((pre ++ oq :: addE pre.length op :: post.map (swO pre.length))[swI pre.length j]?).map Oper.dst = ((pre ++ op :: oq :: post)[j]?).map Oper.dst := fun j => by
  rcases Nat.lt_or_ge j pre.length with h | h
  ·rw [swI_lo h, at_lo h, at_lo h]
  rcases Nat.lt_or_ge j (pre.length + 2) with h2 | h2
  ·rcases (show j = pre.length ∨ j = pre.length + 1 by omega) with rfl | rfl
   ·rw [swI_p, at_q, at_p]; rfl
   ·rw [swI_q, at_p, at_q]
  ·rw [swI_hi h2, at_hi h2, at_hi h2, List.getElem?_map]
   cases post[j - (pre.length + 2)]? <;> rfl
 refine wpAny_sim (P := P) (Q := Q) (l := pre ++ op :: oq :: post) (l' := pre ++ oq :: addE pre.length op :: post.map (swO pre.length)) (by simp) (swI pre.length) (swI_swI _) (fun x => x.getD (pre.length + 1) false = true)
  (fun x i hx => by
   by_cases e : i = pre.length + 1
   ·subst e; exact getD_set_true hx
   ·rw [getD_set_ne false e]; exact hx)
  (fun i o ho => ?_) (fun x x' hx hr hs hs' i => ?_)
 ·rcases Nat.lt_or_ge i pre.length with q | q
  ·rw [at_lo q] at ho
   refine ⟨o, by rw [swI_lo q, at_lo q]; exact ho, rfl, rfl, rfl, rfl, fun tm => wanted_same hd ?_ tm⟩
   cases hg : o.guard with
   | none => rfl
   | some x =>
    have := hgp o (List.mem_of_getElem? ho) x.1 x.2 hg
    simp only [Option.map_some, swI_lo this]
  rcases Nat.lt_or_ge i (pre.length + 2) with q2 | q2
  ·rcases (show i = pre.length ∨ i = pre.length + 1 by omega) with rfl | rfl
   ·rw [at_p] at ho; cases ho
    exact ⟨addE pre.length op, by rw [swI_p, at_q], rfl, rfl, rfl, rfl, fun tm => wanted_same hd (by simp [addE, hga]) tm⟩
   ·rw [at_q] at ho; cases ho
    exact ⟨oq, by rw [swI_q, at_p], rfl, rfl, rfl, rfl, fun tm => wanted_same hd (by simp [hgb]) tm⟩
  ·rw [at_hi q2] at ho
   exact ⟨swO pre.length o, by rw [swI_hi q2, at_hi q2, List.getElem?_map, ho]; rfl, rfl, rfl, rfl, rfl, fun tm => wanted_same hd rfl tm⟩
 ·rw [rdy, rdy]
  have hsz : x'.size = x.size := by omega
  rw [hr (swI pre.length i), swI_swI, hsz]
  have hil : x.size = pre.length + (post.length + 2) := by rw [hs]; simp
  have hlt : i < x.size ↔ swI pre.length i < x.size := by
   unfold swI
   split
   ·omega
   ·split <;> omega
  rw [← hlt]
  refine and_congr_right fun _ => and_congr_right fun _ => ?_
  rcases Nat.lt_or_ge i pre.length with q | q
  ·rw [swI_lo q, at_lo q, at_lo q]
   refine exists_congr fun o => and_congr_right fun ho => ?_
   refine forall_congr' fun e => forall_congr' fun he => forall_congr' fun hbi => ?_
   rw [hr, swI_lo (hep o (List.mem_of_getElem? ho) e he hbi)]
  rcases Nat.lt_or_ge i (pre.length + 2) with q2 | q2
  ·rcases (show i = pre.length ∨ i = pre.length + 1 by omega) with rfl | rfl
   ·rw [swI_p, at_p, at_q]
    constructor
    ·rintro ⟨o1, ho1, he1⟩
     cases ho1
     refine ⟨_, rfl, fun e he hbi => ?_⟩
     simp only [addE, List.mem_toArray, List.mem_append, List.mem_singleton] at he
     rcases he with he | he
     ·have he := Array.mem_toList_iff.1 he
      rw [hr, swI_lo (ha e he hbi)]; exact he1 e he hbi
     ·subst he
      simp only
      rw [hr, swI_p]; exact hx
    ·rintro ⟨o1, ho1, he1⟩
     cases ho1
     refine ⟨_, rfl, fun e he hbi => ?_⟩
     have := he1 e (by simp only [addE, List.mem_toArray, List.mem_append]; exact .inl (Array.mem_toList_iff.2 he)) hbi
     rw [hr, swI_lo (ha e he hbi)] at this; exact this
   ·rw [swI_q, at_p, at_q]
    constructor
    ·intro _
     exact ⟨_, rfl, fun e he => by rw [hb] at he; simp at he⟩
    ·intro _
     exact ⟨_, rfl, fun e he => by rw [hb] at he; simp at he⟩
  ·rw [swI_hi q2, at_hi q2, at_hi q2, List.getElem?_map]
   constructor
   ·rintro ⟨o, ho, he⟩
    rw [ho]
    refine ⟨_, rfl, fun e he2 hbi => ?_⟩
    simp only [swO, List.mem_toArray, List.mem_map] at he2
    obtain ⟨e0, h0, rfl⟩ := he2
    rw [hr]
    simp only [swE, swI_swI]
    exact he e0 (Array.mem_toList_iff.1 h0) hbi
   ·rintro ⟨o', ho, he⟩
    cases hpo : post[i - (pre.length + 2)]? with
    | none => rw [hpo] at ho; cases ho
    | some o =>
     rw [hpo] at ho; cases ho
     refine ⟨o, rfl, fun e he2 hbi => ?_⟩
     have := he (swE pre.length e) (by simp only [swO, List.mem_toArray, List.mem_map]; exact ⟨e, Array.mem_toList_iff.2 he2, rfl⟩) hbi
     rw [hr] at this
     simpa only [swE, swI_swI] using this
end
theorem agd_same {ops ops' : Array Oper} {o : Oper} (h : ∀ j b, o.guard = some (j, b) → (ops'[j]?).bind (·.dst) = (ops[j]?).bind (·.dst)) (fr : Frm) : agd ops' fr o = agd ops fr o := by
 unfold agd
 cases hg : o.guard with
 | none => rfl
 | some x =>
  obtain ⟨j, b⟩ := x
  simp only
  rw [h j b hg]
theorem DStep.ops {P : Program} {J : Mem → Prop} {z : Prop} {ops ops' : Array Oper} {c : Nat} {o : Oper} {fr : Frm} {B H : Mem} {r : AV} {H' : Mem} (h : DStep P J z ops c o fr B H r H') (hg : agd ops' fr o = agd ops fr o) : DStep P J z ops' c o fr B H r H' := by
 unfold DStep at h ⊢
 rw [hg]
 exact h
theorem Trace.cons {P : Program} {J : Mem → Prop} {T : Bool} {ops : Array Oper} {o : Oper} {rest : List Oper} {c : Nat} {cls : List Nat} {fr : Frm} {B H H' : Mem} {r : AV} {F : Nat → Frm} {R : Nat → AV} {M Bs : Nat → Mem}
  (hs : DStep P J (T = true ∧ rest = []) ops c o fr B H r H') (ht : Trace P J T ops rest cls F R M Bs) (h1 : F 0 = fr.put o.dst r) (h2 : M 0 = H') (h4 : Bs 0 = if c = 2 then H' else B) :
  Trace P J T ops (o :: rest) (c :: cls) (fun i => if i = 0 then fr else F (i - 1)) (fun i => if i = 0 then r else R (i - 1)) (fun i => if i = 0 then H else M (i - 1)) (fun i => if i = 0 then B else Bs (i - 1)) := ⟨fun i o' ho => by
 cases i with
 | zero =>
  simp at ho
  subst ho
  simp only [if_true, Nat.zero_add, Nat.one_ne_zero, if_false, Nat.sub_self, h1, h2, h4]
  have hs := hs.to (z' := T = true ∧ 1 = (o :: rest).length) fun ⟨q1, q2⟩ => ⟨q1, by rw [q2]; rfl⟩
  exact ⟨by simpa using hs, trivial, by simp⟩
 | succ i =>
  simp only [List.getElem?_cons_succ] at ho
  have := ht.step i o' ho
  simp only [Nat.succ_ne_zero, if_false, Nat.add_sub_cancel]
  refine ⟨?_, this.2.1, ?_⟩
  ·have q := this.1.to (z' := T = true ∧ i + 1 + 1 = (o :: rest).length) fun ⟨q1, q2⟩ => ⟨q1, by rw [List.length_cons, q2]⟩
   simpa using q
  ·simpa using this.2.2⟩
theorem joint {P : Program} {J : Mem → Prop} {ops opsA opsB : Array Oper} {sufA sufB : List Oper} {cA cB : List Nat} {KA KB : Frm → Mem → Prop} {H : Mem} : ∀ {pre : List Oper} {c : List Nat} {fr : Frm}, c.length = pre.length → (∀ i, i < pre.length → c.getD i 0 < 2) →
  (∀ o ∈ pre, ∀ fr, agd opsA fr o = agd ops fr o) → (∀ o ∈ pre, ∀ fr, agd opsB fr o = agd ops fr o) →
  DRun P J false ops c pre fr H H (fun fr' H' => H' = H ∧ DRun P J false opsA cA sufA fr' H H KA ∧ DRun P J false opsB cB sufB fr' H H KB) →
  ∃ (FA : Nat → Frm) (RA : Nat → AV) (MA BA : Nat → Mem) (FB : Nat → Frm) (RB : Nat → AV) (MB BB : Nat → Mem), Trace P J false opsA (pre ++ sufA) (c ++ cA) FA RA MA BA ∧ Trace P J false opsB (pre ++ sufB) (c ++ cB) FB RB MB BB ∧
   FA 0 = fr ∧ FB 0 = fr ∧ BA 0 = H ∧ BB 0 = H ∧ (∀ i, i < pre.length → RA i = RB i) ∧ (∀ i, i ≤ pre.length → MA i = H ∧ MB i = H) ∧
   KA (FA (pre ++ sufA).length) (MA (pre ++ sufA).length) ∧ KB (FB (pre ++ sufB).length) (MB (pre ++ sufB).length)
 | [], [], fr, _, _, _, _, h => by
  obtain ⟨_, hA, hB⟩ := h
  obtain ⟨FA, RA, MA, BA, a1, a2, a3, a4, a5⟩ := Trace.of_run hA
  obtain ⟨FB, RB, MB, BB, b1, b2, b3, b4, b5⟩ := Trace.of_run hB
  exact ⟨FA, RA, MA, BA, FB, RB, MB, BB, a1, b1, a2, b2, a4, b4, fun i hi => absurd hi (Nat.not_lt_zero _), fun i hi => by
   have : i = 0 := Nat.le_zero.1 hi
   subst this; exact ⟨a3, b3⟩, a5, b5⟩
 | [], _ :: _, _, hc, _, _, _, _ => by cases hc
 | _ :: _, [], _, hc, _, _, _, _ => by cases hc
 | o :: pre, c0 :: c, fr, hc, h2, gA, gB, h => by
  obtain ⟨r, H', hs, hr⟩ := h
  have hc0 : c0 < 2 := h2 0 (by simp)
  have hH : H' = H := hs.1 hc0
  subst hH
  rw [ite_self] at hr
  simp only [List.headD_cons, List.tail_cons] at hs hr
  obtain ⟨FA, RA, MA, BA, FB, RB, MB, BB, tA, tB, fA, fB, bA, bB, hR, hM, kA, kB⟩ := joint (by simpa using hc) (fun i hi => by simpa using h2 (i + 1) (by simp; omega)) (fun o ho => gA o (List.mem_cons_of_mem _ ho)) (fun o ho => gB o (List.mem_cons_of_mem _ ho)) hr
  have sA := (hs.ops (gA o (List.mem_cons_self ..) fr)).to (z' := false = true ∧ pre ++ sufA = []) fun q => by cases q.1
  have sB := (hs.ops (gB o (List.mem_cons_self ..) fr)).to (z' := false = true ∧ pre ++ sufB = []) fun q => by cases q.1
  refine ⟨_, _, _, _, _, _, _, _, Trace.cons sA tA fA (hM 0 (Nat.zero_le _)).1 (by rw [if_neg (by omega)]; exact bA), Trace.cons sB tB fB (hM 0 (Nat.zero_le _)).2 (by rw [if_neg (by omega)]; exact bB), rfl, rfl, rfl, rfl, fun i hi => ?_, fun i hi => ?_, ?_, ?_⟩
  ·cases i with
   | zero => rfl
   | succ i => simpa using hR i (by simpa using hi)
  ·cases i with
   | zero => exact ⟨rfl, rfl⟩
   | succ i => simpa using hM i (by simpa using hi)
  ·simpa using kA
  ·simpa using kB
def ok2 (pre : List Oper) (op oq : Oper) (post : List Oper) (c cA cB : List Nat) : Bool :=
 okD (pre ++ op :: addE pre.length oq :: post) (c ++ cA) && (okD (pre ++ oq :: addE pre.length op :: post.map (swO pre.length)) (c ++ cB) && (op.after.toList.all (fun e => !Region.binds .any e || decide (e.on < pre.length)) && (oq.after.isEmpty && (op.guard.isNone && (oq.guard.isNone &&
 (pre.all (fun o => o.after.toList.all (fun e => !Region.binds .any e || decide (e.on < pre.length)) && (match o.guard with | none => true | some x => decide (x.1 < pre.length))) &&
 (decide (c.length = pre.length) && ((List.range pre.length).all (fun i => decide (c.getD i 0 < 2)) &&
 (List.range post.length).all (fun k => ((cloL (pre ++ op :: addE pre.length oq :: post) []).getD (pre.length + 2 + k) 0).testBit pre.length)))))))))
theorem aw_draw2 {P : Program} {N n0 : Nat} {fr : Frm} {H : Mem} {Q : Exit → Frm → Mem → Prop} {id : Nat} {pre post : List Oper} {op oq : Oper} (hm : P.follows .mixedOrders = true) (c cA cB : List Nat)
  (hlt : dstsLt (pre ++ op :: oq :: post) N = true) (hok : ok2 pre op oq post c cA cB = true) (J : Mem → Prop) (hJ : J H)
  (h : DRun P J false (pre ++ op :: oq :: post).toArray c pre fr H H (fun fr' H' => H' = H ∧ DRun P J false (pre ++ op :: addE pre.length oq :: post).toArray cA (op :: addE pre.length oq :: post) fr' H H (fun fr H => Q .normal fr H) ∧
   DRun P J false (pre ++ oq :: addE pre.length op :: post.map (swO pre.length)).toArray cB (oq :: addE pre.length op :: post.map (swO pre.length)) fr' H H (fun fr H => Q .normal fr H))) :
  aw P N n0 (.region id (pre ++ op :: oq :: post).toArray true) fr H Q := fun g w a hl hd hf hmr => by
 unfold ok2 at hok
 simp only [Bool.and_eq_true, List.all_eq_true, decide_eq_true_eq, Array.isEmpty_iff, Option.isNone_iff_eq_none] at hok
 obtain ⟨hokA, hokB, ha0, hb, hga, hgb, hpre, hcl, hc2, hclo⟩ := hok
 have ha : ∀ e ∈ op.after, Region.binds .any e = true → e.on < pre.length := fun e he hbi => by
  have := ha0 e (Array.mem_toList_iff.2 he)
  rw [hbi] at this
  simpa using this
 have hep : ∀ o ∈ pre, ∀ e ∈ o.after, Region.binds .any e = true → e.on < pre.length := fun o ho e he hbi => by
  have := (hpre o ho).1 e (Array.mem_toList_iff.2 he)
  rw [hbi] at this
  simpa using this
 have hgp : ∀ o ∈ pre, ∀ j b, o.guard = some (j, b) → j < pre.length := fun o ho j b hg => by
  have := (hpre o ho).2
  rw [hg] at this
  simpa using this
 have hgA : ∀ o ∈ pre, ∀ fr, agd (pre ++ op :: addE pre.length oq :: post).toArray fr o = agd (pre ++ op :: oq :: post).toArray fr o := fun o ho => agd_same fun j b hg => by
  have := hgp o ho j b hg
  simp only [List.getElem?_toArray]
  rw [at_lo this, at_lo this]
 have hgB : ∀ o ∈ pre, ∀ fr, agd (pre ++ oq :: addE pre.length op :: post.map (swO pre.length)).toArray fr o = agd (pre ++ op :: oq :: post).toArray fr o := fun o ho => agd_same fun j b hg => by
  have := hgp o ho j b hg
  simp only [List.getElem?_toArray]
  rw [at_lo this, at_lo this]
 obtain ⟨FA, RA, MA, BA, FB, RB, MB, BB, tA, tB, fA, fB, bA, bB, hR, hM, kA, kB⟩ := joint hcl (fun i hi => hc2 i (List.mem_range.2 hi)) hgA hgB h
 have oA := okD_spec hokA
 have oB := okD_spec hokB
 generalize hlA : pre ++ op :: addE pre.length oq :: post = lA at *
 generalize hlB : pre ++ oq :: addE pre.length op :: post.map (swO pre.length) = lB at *
 have hlen : lA.length = (pre ++ op :: oq :: post).length := by rw [← hlA]; simp
 have hlenB : lB.length = (pre ++ op :: oq :: post).length := by rw [← hlB]; simp
 have hlen2 : (pre ++ op :: oq :: post).length = pre.length + (post.length + 2) := by simp
 have ltA : dstsLt lA N = true := by
  rw [← hlA]
  unfold dstsLt at hlt ⊢
  simpa [addE] using hlt
 have ltB : dstsLt lB N = true := by
  rw [← hlB]
  unfold dstsLt at hlt ⊢
  simp [addE, swO, Function.comp_def] at hlt ⊢
  exact ⟨hlt.1, hlt.2.2.1, hlt.2.1, hlt.2.2.2⟩
 have cgA : ∀ i, i < pre.length → (c ++ cA).getD i 0 < 2 := fun i hi => by
  have := hc2 i (List.mem_range.2 hi)
  rw [List.getD_eq_getElem?_getD] at this ⊢
  rw [List.getElem?_append_left (by omega)]; exact this
 have cgB : ∀ i, i < pre.length → (c ++ cB).getD i 0 < 2 := fun i hi => by
  have := hc2 i (List.mem_range.2 hi)
  rw [List.getD_eq_getElem?_getD] at this ⊢
  rw [List.getElem?_append_left (by omega)]; exact this
 have hB0A : BA 0 = MA 0 := bA.trans (hM 0 (Nat.zero_le _)).1.symm
 have hB0B : BB 0 = MB 0 := bB.trans (hM 0 (Nat.zero_le _)).2.symm
 have main : ∀ (fuel : Nat) (x : Array Bool) (fr1 : Frm) (g1 : Gh) (w1 : World) (a1 : Act), x.size = lA.length → x.count false ≤ fuel → (∀ i, x.getD i false = true → i < pre.length) → Done lA (c ++ cA) FA RA MA (fun i => x.getD i false = true) fr1 H →
   a1.defers = [] → FR g1 H.length N fr1 a1.tmps → MR g1 H w1 → Ev n0 g w g1 w1 → n0 ≤ H.length → wpAny P .any (pre ++ op :: oq :: post).toArray (CR N n0 g w Q) fuel x a1 w1 := by
  intro fuel
  induction fuel with
  | zero =>
   intro x fr1 g1 w1 a1 hsz hc hx hD hd hf hm he hn
   exfalso
   have hp : pre.length < x.size := by omega
   have : false ∈ x := by
    rw [Array.mem_iff_getElem]
    refine ⟨pre.length, hp, ?_⟩
    cases hq : x[pre.length] with
    | false => rfl
    | true => have := hx pre.length (by simp [hp, hq]); omega
   have := Array.count_pos_iff.2 this
   omega
  | succ fuel ih =>
   intro x fr1 g1 w1 a1 hsz hc hx hD hd hf hm he hn
   have hxf : ∀ i, pre.length ≤ i → x.getD i false = false := fun i hi => by
    cases hq : x.getD i false with
    | false => rfl
    | true => have := hx i hq; omega
   have hp : pre.length < x.size := by omega
   refine ⟨fun hr => ?_, fun i hi => ?_⟩
   ·exfalso
    have : pre.length + 1 ∈ Region.ready .any (pre ++ op :: oq :: post).toArray x := rdy.2 ⟨by omega, hxf _ (Nat.le_succ _), oq, at_q, fun e he => by rw [hb] at he; simp at he⟩
    rw [hr] at this
    cases this
   obtain ⟨his, hin, o, ho, hpe⟩ := rdy.1 hi
   rcases Nat.lt_or_ge i pre.length with q | q
   ·
    have hiA : lA[i]? = some o := by rw [← hlA]; rw [at_lo q] at ho ⊢; exact ho
    have hmem : o ∈ pre := by rw [at_lo q] at ho; exact List.mem_of_getElem? ho
    have hn0 : ¬ x.getD i false = true := by rw [hin]; simp
    have hnext := hD.next tA oA hiA hn0 hpe
    have hDeq : (fun j => j = i ∨ x.getD j false = true) = fun j => (x.setIfInBounds i true).getD j false = true := by
     funext j
     by_cases e : j = i
     ·subst e; simp [his]
     ·rw [getD_set_ne false (Ne.symm e)]; simp [e]
    have hci := cgA i q
    rw [hDeq, if_neg (by omega)] at hnext
    have hcnt : (x.setIfInBounds i true).count false ≤ fuel := by
     have h1 : x[i] = false := by simpa [his] using hin
     have h2 : 0 < x.count false := Array.count_pos_iff.2 (Array.mem_iff_getElem.2 ⟨i, his, h1⟩)
     rw [Array.setIfInBounds, dif_pos his, Array.count_set]
     simp [h1]
     omega
    have hx2 : ∀ j, (x.setIfInBounds i true).getD j false = true → j < pre.length := fun j hj => by
     by_cases e : j = i
     ·omega
     ·rw [getD_set_ne false (Ne.symm e)] at hj; exact hx j hj
    have hdst : ∀ y, o.dst = some y → y < N := fun y hy => by
     have := List.all_eq_true.1 ltA o (List.mem_of_getElem? hiA)
     rw [hy] at this; simpa using this
    obtain ⟨⟨hq, _, _, hs⟩, _⟩ := tA.step i o hiA
    have hag : ∀ t, t ∈ o.looksAt lA.toArray → fr1 t = FA i t := fun t => hD.looks tA oA hiA hn0 hpe
    have hgd : agd lA.toArray fr1 o = agd lA.toArray (FA i) o := by
     unfold agd
     cases hgd : o.guard with
     | none => rfl
     | some jw =>
      obtain ⟨j, want⟩ := jw
      simp only
      cases hdj : (lA.toArray[j]?).bind (·.dst) with
      | none => rfl
      | some d => simp only [hag d (by simp only [Oper.looksAt, hgd, List.mem_append]; right; rw [hdj]; simp)]
    have hgl : agd (pre ++ op :: oq :: post).toArray fr1 o = agd lA.toArray (FA i) o := (hgA o hmem fr1).symm.trans hgd
    unfold wpOp
    rw [show (pre ++ op :: oq :: post).toArray[i]? = some o by simpa using ho]
    simp only
    rcases hs with ⟨hg, hs⟩ | ⟨hg, hr, hM'⟩
    ·have hw := wanted_agd hf (hgl.trans hg)
     rw [if_pos hw]
     refine .inl (wp_of_Ls (K := SR H.length g1 w1 fun r1 H1 => r1 = RA i ∧ H1 = H) ?_ ?_)
     ·have hop : ∀ t, Operand.tmp t ∈ o.op.operands → fr1 t = FA i t := fun t hx => hag t (by
       simp only [Oper.looksAt, List.mem_append]; left
       exact List.mem_filterMap.2 ⟨.tmp t, Array.mem_toList_iff.2 hx, rfl⟩)
      have hO : OpS P o fr1 H fun r1 H1 => r1 = RA i ∧ H1 = H := by
       rcases hs with ⟨hc0, hs⟩ | ⟨hc0, hs⟩ | ⟨hc0, hs⟩
       ·exact (hs H hJ).congr hop
       ·exact (hs H (hD.look tA hB0A oA hiA hn0 hpe hc0)).congr hop
       ·omega
      exact hO g1 w1 a1.eval (fun x _ => VR_aev hf x) hm
     ·rintro v w' ⟨r, H', g', ⟨rfl, rfl⟩, hv, hm', he', hn'⟩
      refine ih _ _ g' w' _ (by simpa using hsz) hcnt hx2 hnext ?_ ?_ hm' (he.trans he' hn) hn
      ·cases o.dst <;> exact hd
      ·exact FR.put (FR.mono he'.gle hn' hf) hdst hv
    ·have hw := wanted_agd hf (hgl.trans hg)
     rw [if_neg (by rw [hw]; simp)]
     rw [hr] at hnext
     refine ih _ _ g1 w1 _ (by simpa using hsz) hcnt hx2 hnext ?_ ?_ hm he hn
     ·cases o.dst <;> exact hd
     ·exact FR.put hf hdst (.sc undef)
   rcases Nat.lt_or_ge i (pre.length + 2) with q2 | q2
   ·rcases (show i = pre.length ∨ i = pre.length + 1 by omega) with rfl | rfl
    ·
     have wA := draw_sound (QQ := CR N n0 g w Q) tA hB0A (by rw [(hM 0 (Nat.zero_le _)).1]; exact hJ) oA (fun q => by cases q) ltA (fun g' w' a' d f m e n => ⟨d, _, _, g', kA, f, m, e, n⟩) (fuel + 1) x fr1 H g1 w1 a1 hsz hc hD hd hf hm he hn
     have hr : pre.length ∈ Region.ready .any lA.toArray x := rdy.2 ⟨hp, hxf _ (Nat.le_refl _), op, by rw [← hlA, at_p], fun e he hbi => by
      rw [at_p] at ho; cases ho; exact hpe e he hbi⟩
     have h1 := wA.2 _ hr
     refine wpOp_sim (l' := lA) (o := op) at_p (by rw [← hlA, at_p]) rfl rfl rfl rfl ?_ ?_ h1
     ·unfold Region.wanted; rw [hga]
     ·intro a w hw
      refine sim_A fuel _ a w (by simp [hp]) (by simp only [Array.size_setIfInBounds]; omega) ?_
      rw [hlA]; exact hw
    ·
     have hDB : Done lB (c ++ cB) FB RB MB (fun i => x.getD i false = true) fr1 H := by
      have hsame : ∀ i, i < pre.length → lB[i]? = lA[i]? := fun i hi => by rw [← hlA, ← hlB, at_lo hi, at_lo hi]
      refine ⟨fun i o hi hDi => ?_, fun i o t hi hDi hdi => ?_, fun t h => ?_, pre.length, by omega, fun j hj hj2 => ⟨fun hDj => ?_, fun hjp => ?_⟩, (hM _ (Nat.le_refl _)).2.symm⟩
      ·exact hD.down i o (by rw [← hsame i (hx i hDi)]; exact hi) hDi
      ·rw [← hR i (hx i hDi)]
       exact hD.put i o t (by rw [← hsame i (hx i hDi)]; exact hi) hDi hdi
      ·rw [fB, ← fA]
       exact hD.keep t fun i o hi hDi => h i o (by rw [hsame i (hx i hDi)]; exact hi) hDi
      ·exact hx j hDj
      ·have := cgB j hjp; omega
     have wB := draw_sound (QQ := CR N n0 g w Q) tB hB0B (by rw [(hM 0 (Nat.zero_le _)).2]; exact hJ) oB (fun q => by cases q) ltB (fun g' w' a' d f m e n => ⟨d, _, _, g', kB, f, m, e, n⟩) (fuel + 1) x fr1 H g1 w1 a1 (by omega) hc hDB hd hf hm he hn
     have hr : pre.length ∈ Region.ready .any lB.toArray x := rdy.2 ⟨hp, hxf _ (Nat.le_refl _), oq, by rw [← hlB, at_p], fun e he => by rw [hb] at he; simp at he⟩
     have h1 := wB.2 _ hr
     refine wpOp_sim (l' := lB) (o := oq) at_q (by rw [← hlB, at_p]) rfl rfl rfl rfl ?_ ?_ h1
     ·unfold Region.wanted; rw [hgb]
     ·intro a w hw
      refine sim_B ha hb hga hgb hep hgp fuel _ (x.setIfInBounds pre.length true) a w ?_ (fun j => ?_) (by simp only [Array.size_setIfInBounds]; omega) (by simp only [Array.size_setIfInBounds]; omega) ?_
      ·have : pre.length + 1 < x.size := by omega
       simp [this]
      ·have hq : pre.length + 1 < x.size := by omega
       by_cases e : j = pre.length
       ·subst e; rw [swI_p]; simp [hp, hq]
       ·rw [getD_set_ne false (Ne.symm e)]
        by_cases e2 : j = pre.length + 1
        ·subst e2
         rw [swI_q, getD_set_ne false (by omega), hxf _ (Nat.le_succ _), hxf _ (Nat.le_refl _)]
        ·have : swI pre.length j = j := by unfold swI; rw [if_neg e, if_neg e2]
         rw [this, getD_set_ne false (Ne.symm e2)]
      ·rw [hlB]; exact hw
   ·
    exfalso
    have hiA : lA[i]? = some o := by rw [← hlA]; rw [at_hi q2] at ho ⊢; exact ho
    have hk : i - (pre.length + 2) < post.length := by omega
    have := hclo (i - (pre.length + 2)) (List.mem_range.2 hk)
    rw [show pre.length + 2 + (i - (pre.length + 2)) = i by omega] at this
    have := Done.clo oA hD.down (i + 1) i o (by omega) hiA hpe pre.length this
    have := hx _ this
    omega
 refine wp_region_any hm ?_
 refine main _ _ fr g _ a (by simp [hlen]) (by simp) (fun i hi => ?_) ?_ hd hf hmr.drawn ⟨.refl _ _, fun _ _ h => ⟨h, rfl⟩, Nat.le_refl _, rfl, rfl, rfl⟩ hl
 ·simp [Array.getElem?_replicate] at hi
  split at hi <;> simp at hi
 refine ⟨fun i o _ hD => ?_, fun i o t _ hD => ?_, fun t _ => by rw [fA], 0, Nat.zero_le _, fun j hj _ => ⟨fun hD => ?_, fun h => absurd h (Nat.not_lt_zero _)⟩, (hM 0 (Nat.zero_le _)).1.symm⟩
 ·simp [Array.getElem?_replicate] at hD
  split at hD <;> simp at hD
 ·simp [Array.getElem?_replicate] at hD
  split at hD <;> simp at hD
 ·simp [Array.getElem?_replicate] at hD
  split at hD <;> simp at hD
theorem aw_draw2L {P : Program} {N n0 : Nat} {fr : Frm} {H : Mem} {Q : Exit → Frm → Mem → Prop} {id : Nat} {l : List Oper} {op oq : Oper} (hm : P.follows .mixedOrders = true) (p : Nat) (c cA cB : List Nat) (hop : l[p]? = some op) (hoq : l[p + 1]? = some oq)
  (hlt : dstsLt l N = true) (hok : ok2 (l.take p) op oq (l.drop (p + 2)) c cA cB = true) (J : Mem → Prop) (hJ : J H)
  (h : DRun P J false l.toArray c (l.take p) fr H H (fun fr' H' => H' = H ∧ DRun P J false (l.take p ++ op :: addE p oq :: l.drop (p + 2)).toArray cA (op :: addE p oq :: l.drop (p + 2)) fr' H H (fun fr H => Q .normal fr H) ∧
   DRun P J false (l.take p ++ oq :: addE p op :: (l.drop (p + 2)).map (swO p)).toArray cB (oq :: addE p op :: (l.drop (p + 2)).map (swO p)) fr' H H (fun fr H => Q .normal fr H))) :
  aw P N n0 (.region id l.toArray true) fr H Q := by
 have h1 : p + 1 < l.length := (List.getElem?_eq_some_iff.1 hoq).1
 have e : l = l.take p ++ op :: oq :: l.drop (p + 2) := by
  have e1 : l.drop p = op :: l.drop (p + 1) := by rw [← List.getElem_cons_drop (show p < l.length by omega)]; rw [(List.getElem?_eq_some_iff.1 hop).2]
  have e2 : l.drop (p + 1) = oq :: l.drop (p + 2) := by rw [← List.getElem_cons_drop h1]; rw [(List.getElem?_eq_some_iff.1 hoq).2]
  conv => lhs; rw [← List.take_append_drop p l, e1, e2]
 have hlen : (l.take p).length = p := by rw [List.length_take]; omega
 have key := aw_draw2 (P := P) (N := N) (n0 := n0) (fr := fr) (H := H) (Q := Q) (id := id) (pre := l.take p) (post := l.drop (p + 2)) (op := op) (oq := oq) hm c cA cB (by rw [← e]; exact hlt) hok J hJ
 rw [← e, hlen] at key
 exact key h
end Go.Proofs.YtaaamoicidfgcaaGreat.Am
namespace Go.Proofs.YtaaamoicidfgcaaGreat.Am
open Go
theorem Reb.none1 {N : Nat} {fr : Frm} {H M : Mem} {t z : Nat} (hb : MBd H) (hp : H <+: M) (ht : fr t = .sc (.slice Option.none 0 0)) :
  Reb N H.length fr (Frm.of [(t, .hs H.length 0 0 0 z)]) M (H ++ [.cells []]) := by
 obtain ⟨tl, rfl⟩ := hp
 refine (Reb.drop (l := [(t, .sc (.slice Option.none 0 0))]) (Nat.le_refl _) hb ⟨by rw [ht]; exact .sc _, trivial⟩).trans (Reb.none ⟨?_, trivial⟩)
 simp only [Frm.of, if_true]; exact AVLt.hn _ _
end Go.Proofs.YtaaamoicidfgcaaGreat.Am
namespace Go.Proofs.YtaaamoicidfgcaaGreat.Am
open Go
def AV.et : AV → Option AV
 | .any => some .any
 | .sc v => some (.sc v)
 | .sl z es k => some (.sl z es k)
 | .ag cs => some (.ag cs)
 | .tp vs => some (.tp vs)
 | .pt id off => some (.pt id off)
 | .ep cs => some (.ep cs)
 | .hs id off len mc s => some (.hs id off len mc s)
 | .mp id => some (.mp id)
 | .fn f first caps => some (.fn f first caps)
theorem AV.et_some {a r : AV} (h : a.et = some r) : r = a := by cases a <;> (cases h; rfl)
def pOp (ops : Array Oper) (fr : Frm) (o : Oper) : Option AV :=
 match agd ops fr o with
 | some false => some undefA
 | some true =>
  (match o.op with
  | .move x => (aev fr x).et
  | .assign x => (aev fr x).et
  | .pick c x y => (match aev fr c with | .sc (.bool true) => (aev fr x).et | .sc (.bool false) => (aev fr y).et | _ => none)
  | .binOp op _ x y _ => (match op with
   | .shl => none
   | .shr => none
   | op => (match aev fr x, aev fr y with | .sc (.int k a), .sc (.int k' b) => if k = k' then (match intBin op k a b with | some v => some (.sc v) | none => none) else none | _, _ => none))
  | .unOp op _ x => (match aUn op (aev fr x) with | some v => some (.sc v) | none => none)
  | .extract x i => (match aev fr x with | .tp vs => (match vs[i]? with | some a => a.et | none => none) | _ => none)
  | _ => none)
 | none => none
theorem pOp_some {P : Program} {ops : Array Oper} {fr : Frm} {o : Oper} {r : AV} (h : pOp ops fr o = some r) : (agd ops fr o = some false ∧ r = undefA) ∨ (agd ops fr o = some true ∧ ∀ H, OpS P o fr H (Det r H)) := by
 obtain ⟨dst, op, ty, pos, after, guard⟩ := o
 unfold pOp at h
 split at h
 ·rename_i hg
  cases h
  exact .inl ⟨hg, rfl⟩
 ·rename_i hg
  refine .inr ⟨hg, fun H => ?_⟩
  simp only at h
  split at h
  ·obtain rfl := AV.et_some h; exact o_move (.refl _)
  ·obtain rfl := AV.et_some h; exact o_assign (.refl _)
  ·split at h
   ·rename_i hc; obtain rfl := AV.et_some h; exact o_pick (b := true) hc (.refl _)
   ·rename_i hc; obtain rfl := AV.et_some h; exact o_pick (b := false) hc (.refl _)
   ·cases h
  ·split at h
   ·cases h
   ·cases h
   ·rename_i h1 h2
    split at h
    ·rename_i hx hy
     split at h
     ·rename_i e
      subst e
      split at h
      ·rename_i hv; cases h
       exact o_int hx hy (by split <;> first | rfl | (exact absurd rfl h1) | (exact absurd rfl h2)) hv
      ·cases h
     ·cases h
    ·cases h
  ·split at h
   ·rename_i hv; cases h; exact opS_unOp hv ⟨.refl _, rfl⟩
   ·cases h
  ·split at h
   ·rename_i hx
    split at h
    ·rename_i ha; obtain rfl := AV.et_some h; exact o_extract hx ha
    ·cases h
   ·cases h
  ·cases h
 ·cases h
def pRun (ops : Array Oper) : Nat → List Oper → Frm → Option (List Oper × Frm)
 | 0, l, fr => some (l, fr)
 | _ + 1, [], _ => none
 | n + 1, o :: l, fr => match pOp ops fr o with | some r => pRun ops n l (fr.put o.dst r) | none => none
def pRunD (ops : Array Oper) : Nat → List Nat → List Oper → Frm → Option (List Nat × List Oper × Frm)
 | 0, cs, l, fr => some (cs, l, fr)
 | n + 1, c :: cs, o :: l, fr =>
  (match agd ops fr o with
  | some false => if c = 2 then none else pRunD ops n cs l (fr.put o.dst undefA)
  | _ => if c = 0 then (match pOp ops fr o with | some r => pRunD ops n cs l (fr.put o.dst r) | none => none) else none)
 | _ + 1, _, _, _ => none
section
variable {P : Program} {ops : Array Oper} {H B : Mem} {K : Frm → Mem → Prop} {J : Mem → Prop} {T : Bool}
theorem OR (n : Nat) : ∀ {l l' : List Oper} {fr fr' : Frm}, pRun ops n l fr = some (l', fr') → OpsS P ops l' fr' H K → OpsS P ops l fr H K := by
 induction n with
 | zero => intro l l' fr fr' h h2; cases h; exact h2
 | succ n ih =>
  intro l l' fr fr' h h2
  cases l with
  | nil => cases h
  | cons o l =>
   simp only [pRun] at h
   split at h
   ·rename_i r hr
    rcases pOp_some (P := P) hr with ⟨hg, rfl⟩ | ⟨hg, ho⟩
    ·exact OpsS_skip hg (ih h h2)
    ·exact OpsS_det r H hg (ho H) (ih h h2)
   ·cases h
theorem DR (n : Nat) : ∀ {cs cs' : List Nat} {l l' : List Oper} {fr fr' : Frm}, pRunD ops n cs l fr = some (cs', l', fr') → DRun P J T ops cs' l' fr' B H K → DRun P J T ops cs l fr B H K := by
 induction n with
 | zero => intro cs cs' l l' fr fr' h h2; cases h; exact h2
 | succ n ih =>
  intro cs cs' l l' fr fr' h h2
  unfold pRunD at h
  split at h
  ·rename_i e; cases e
  ·rename_i c cs2 o l2 fr2 en
   cases en
   split at h
   ·rename_i hg
    split at h
    ·cases h
    ·rename_i hc; exact DRun_skipN hc hg (ih h h2)
   ·split at h
    ·rename_i hc
     subst hc
     split at h
     ·rename_i r hr
      rcases pOp_some (P := P) hr with ⟨hg, rfl⟩ | ⟨hg, ho⟩
      ·exact DRun_skipN (by decide) hg (ih h h2)
      ·exact DRun_det0 r hg ho (ih h h2)
     ·cases h
    ·cases h
  ·cases h
end
end Go.Proofs.YtaaamoicidfgcaaGreat.Am
namespace Go.Proofs.YtaaamoicidfgcaaGreat.Am
open Go
section
variable {P : Program} {N n0 : Nat} {ops : Array Oper} {o : Oper} {rest : List Oper} {fr : Frm} {H B : Mem} {K : Frm → Mem → Prop} {Q : Exit → Frm → Mem → Prop} {J : Mem → Prop} {T : Bool} {cs : List Nat} {α : Type} {u v z : Option α} {b : Bool}
theorem aT {c : Operand} {x y : Code} (h : (if b = true then u else v) = z) (hc : aev fr c = .sc (.bool b)) (h1 : b = true → u = z → aw P N n0 x fr H Q) (h2 : b = false → v = z → aw P N n0 y fr H Q) : aw P N n0 (.cond c x y) fr H Q :=
 aw_test hc (fun e => h1 e (ite_t e h)) (fun e => h2 e (ite_f e h))
theorem oT (h : (if b = true then u else v) = z) (hg : agd ops fr o = some true) (ho : OpS P o fr H (Det (.sc (.bool b)) H)) (h1 : b = true → u = z → OpsS P ops rest (fr.put o.dst (.sc (.bool true))) H K)
  (h2 : b = false → v = z → OpsS P ops rest (fr.put o.dst (.sc (.bool false))) H K) : OpsS P ops (o :: rest) fr H K := OpsS_test hg ho (fun e => h1 e (ite_t e h)) (fun e => h2 e (ite_f e h))
theorem dT0 (h : (if b = true then u else v) = z) (hg : agd ops fr o = some true) (ho : ∀ H0 : Mem, OpS P o fr H0 (Det (.sc (.bool b)) H0)) (h1 : b = true → u = z → DRun P J T ops cs rest (fr.put o.dst (.sc (.bool true))) B H K)
  (h2 : b = false → v = z → DRun P J T ops cs rest (fr.put o.dst (.sc (.bool false))) B H K) : DRun P J T ops (0 :: cs) (o :: rest) fr B H K := DRun_test0 hg ho (fun e => h1 e (ite_t e h)) (fun e => h2 e (ite_f e h))
theorem bs {β : Type} {o : Option α} {f : α → Option β} {b : β} (h : o.bind f = some b) : ∃ a, o = some a ∧ f a = some b := bind_some h
theorem sr {id : Nat} {l : List Oper} {y : Code} (hlt : dstsLt l N = true) (h : OpsS P l.toArray l fr H fun fr H => thenQ (fun fr H => aw P N n0 y fr H Q) Q .normal fr H) : aw P N n0 (.seq (.region id l.toArray false) y) fr H Q := aw_seq (aw_region hlt h)
theorem nt (h : K fr H) : OpsS P ops [] fr H fun fr H => thenQ K Q .normal fr H := h
end
theorem flr {N n0 : Nat} {fr : Frm} {H : Mem} {l : List (Nat × AV)} (h : (l.map fun p => fr p.1) = l.map (·.2)) : Reb N n0 fr (Frm.of l) H H := Reb.fl (by
 induction l with
 | nil => trivial
 | cons p r ih =>
  simp only [List.map_cons, List.cons.injEq] at h
  exact ⟨by rw [h.1]; exact .refl _, ih h.2⟩)
end Go.Proofs.YtaaamoicidfgcaaGreat.Am
namespace Go.Proofs.YtaaamoicidfgcaaGreat.Am
open Go
set_option linter.unusedVariables false
section
variable {n : Nat} {σ : List Nat} {tx : List (Nat × List Nat)} {C : List Nat}
end
theorem Trace.pre {P : Program} {J : Mem → Prop} {ops : Array Oper} {K : Frm → Mem → Prop} : ∀ {pre : List Oper} {c : List Nat} {fr : Frm} {B H : Mem}, c.length = pre.length → (∀ i, i < pre.length → c.getD i 0 ≠ 2) →
  DRun P J false ops c pre fr B H K → ∃ (fr' : Frm) (H' : Mem) (R0 : Nat → AV) (M0 : Nat → Mem), K fr' H' ∧ ∀ (opsA : Array Oper) (suf : List Oper) (cA : List Nat) (FA : Nat → Frm) (RA : Nat → AV) (MA BA : Nat → Mem), (∀ o ∈ pre, ∀ fr, agd opsA fr o = agd ops fr o) →
   Trace P J false opsA suf cA FA RA MA BA → FA 0 = fr' → MA 0 = H' → BA 0 = B → ∃ F R M Bs, Trace P J false opsA (pre ++ suf) (c ++ cA) F R M Bs ∧ F 0 = fr ∧ M 0 = H ∧ Bs 0 = B ∧ (∀ i, i < pre.length → R i = R0 i) ∧ (∀ i, i ≤ pre.length → M i = M0 i) ∧
    (∀ j, F (pre.length + j) = FA j) ∧ (∀ j, R (pre.length + j) = RA j) ∧ ∀ j, M (pre.length + j) = MA j
 | [], [], fr, B, H, _, _, h => ⟨fr, H, fun _ => .any, fun _ => H, h, fun opsA suf cA FA RA MA BA _ ht h1 h2 h3 => ⟨FA, RA, MA, BA, ht, h1, h2, h3, fun i hi => absurd hi (Nat.not_lt_zero _), fun i hi => by
   have : i = 0 := Nat.le_zero.1 hi
   subst this; exact h2, fun j => by simp, fun j => by simp, fun j => by simp⟩⟩
 | [], _ :: _, _, _, _, hc, _, _ => by cases hc
 | _ :: _, [], _, _, _, hc, _, _ => by cases hc
 | o :: pre, c0 :: c, fr, B, H, hc, h2, h => by
  obtain ⟨r, H', hs, hr⟩ := h
  have hc0 : c0 ≠ 2 := h2 0 (by simp)
  rw [show (if (c0 :: c).headD 0 = 2 then H' else B) = B from if_neg hc0] at hr
  simp only [List.headD_cons, List.tail_cons] at hs hr
  obtain ⟨fr', H2, R0, M0, hK, hT⟩ := Trace.pre (by simpa using hc) (fun i hi => by simpa using h2 (i + 1) (by simp; omega)) hr
  refine ⟨fr', H2, fun i => if i = 0 then r else R0 (i - 1), fun i => if i = 0 then H else M0 (i - 1), hK, fun opsA suf cA FA RA MA BA hg ht q1 q2 q3 => ?_⟩
  obtain ⟨F, R, M, Bs, t, a1, a2, a3, a4, a5, a6, a7, a8⟩ := hT opsA suf cA FA RA MA BA (fun o ho => hg o (List.mem_cons_of_mem _ ho)) ht q1 q2 q3
  have sA := (hs.ops (hg o (List.mem_cons_self ..) fr)).to (z' := false = true ∧ pre ++ suf = []) fun q => by cases q.1
  refine ⟨_, _, _, _, Trace.cons sA t a1 a2 (by rw [if_neg hc0]; exact a3), rfl, rfl, rfl, fun i hi => ?_, fun i hi => ?_, fun j => ?_, fun j => ?_, fun j => ?_⟩
  ·cases i with
   | zero => rfl
   | succ i => simpa using a4 i (by simpa using hi)
  ·cases i with
   | zero => rfl
   | succ i => simpa using a5 i (by simpa using hi)
  ·have := a6 j
   rw [show (o :: pre).length + j = pre.length + j + 1 by simp; omega]
   simpa using this
  ·have := a7 j
   rw [show (o :: pre).length + j = pre.length + j + 1 by simp; omega]
   simpa using this
  ·have := a8 j
   rw [show (o :: pre).length + j = pre.length + j + 1 by simp; omega]
   simpa using this
end Go.Proofs.YtaaamoicidfgcaaGreat.Am
namespace Go.Proofs.YtaaamoicidfgcaaGreat.Am
open Go
set_option linter.unusedVariables false
section
variable {α : Type} {P : Program} {fr : Frm} {H : Mem} {dst : Option Nat} {ty : TypeId} {pos : String} {after : Array Edge} {guard : Option (Nat × Bool)}
theorem o_indexAddrD {t e n : Nat} {x y : Operand} {s b : Nat} {zz : Option Value} {l : List α} {id off : Nat} {kk : IntKind} {i : Int} {a : α} (hu : P.underlying t = some (.array n e)) (hti : tinf P e = some (s, b, zz)) (hx : aev fr x = .pt id off)
  (hy : aev fr y = .sc (.int kk i)) (hn : l.length = n) (hi : idx l i = some a) : OpS P ⟨dst, .indexAddr t x y, ty, pos, after, guard⟩ fr H (Det (.pt id (off + i.toNat * s)) H) := opS_indexAddr (by
 obtain ⟨h0, h1⟩ := idx_lt hi
 simp only [aIndexAddr, hu, hti, hx, hy]
 exact ⟨h0, by rw [← hn]; exact h1, .refl _, rfl⟩)
end
end Go.Proofs.YtaaamoicidfgcaaGreat.Am
namespace Go.Proofs.YtaaamoicidfgcaaGreat.Am
open Go
set_option linter.unusedVariables false
theorem mget_mset {β : Type} (l : List (Int × β)) (k k' : Int) (b : β) : mget (mset l k b) k' = if (k' == k) = true then some b else mget l k' := by
 unfold mget mset
 by_cases ha : (l.any fun y => y.1 == k) = true
 ·rw [if_pos ha]
  by_cases hk : (k' == k) = true
  ·rw [if_pos hk]
   have hk' : k' = k := by simpa using hk
   subst hk'
   induction l with
   | nil => cases ha
   | cons y l ih =>
    by_cases hy : y.1 = k'
    ·simp [hy]
    ·rw [List.any_cons, show (y.1 == k') = false by simpa using hy, Bool.false_or] at ha
     rw [List.map_cons, show (y.1 == k') = false by simpa using hy]
     simp only [Bool.false_eq_true, if_false, List.find?_cons, show (y.1 == k') = false by simpa using hy]
     simpa using ih ha
  ·rw [if_neg hk]
   clear ha
   have hk' : ¬ k' = k := by simpa using hk
   induction l with
   | nil => rfl
   | cons y l ih =>
    rw [List.map_cons]
    by_cases hy : y.1 = k
    ·have h2 : (y.1 == k') = false := by rw [hy]; simpa using Ne.symm hk'
     simp only [hy, beq_self_eq_true, if_true, List.find?_cons, show (k == k') = false by simpa using Ne.symm hk']
     simpa using ih
    ·simp only [show (y.1 == k) = false by simpa using hy, Bool.false_eq_true, if_false, List.find?_cons]
     split
     ·rfl
     ·simpa using ih
 ·rw [if_neg ha, List.find?_append]
  by_cases hk : (k' == k) = true
  ·rw [if_pos hk]
   have hk' : k' = k := by simpa using hk
   subst hk'
   have : l.find? (fun y => y.1 == k') = none := by
    rw [List.find?_eq_none]
    intro y hy he
    exact ha (List.any_eq_true.2 ⟨y, hy, he⟩)
   rw [this]; simp
  ·rw [if_neg hk]
   have hk' : ¬ k = k' := by intro e; exact hk (by simpa using e.symm)
   have : (List.find? (fun y => y.1 == k') [(k, b)]) = none := by simp [hk']
   rw [this, Option.or_none]
theorem mget_nil {β : Type} (k : Int) : mget ([] : List (Int × β)) k = none := rfl
theorem mget_hit {β : Type} {l : List (Int × β)} {k k' : Int} {b : β} (h : (k' == k) = true) : mget (mset l k b) k' = some b := by rw [mget_mset, if_pos h]
theorem mget_missF {β : Type} {l : List (Int × β)} {k k' : Int} {b : β} {o : Option β} (h : (k' == k) = false) (h2 : mget l k' = o) : mget (mset l k b) k' = o := by rw [mget_mset, if_neg (by rw [h]; decide), h2]
section
variable {P : Program} {fr : Frm} {H : Mem} {K : AV → Mem → Prop} {dst : Option Nat} {ty : TypeId} {pos : String} {after : Array Edge} {guard : Option (Nat × Bool)}
theorem eq_func {P : Program} {t : TypeId} {d0 : TypeDesc} (ht : P.underlying t = some d0) (hd : (match d0 with | .func _ _ _ => true | _ => false) = true) (d : Nat) {f : Fn} {a b : Array Value} (w : World) : (Op.equalIn (d + 1) t (.func f a b) .nilFunc).run P w = .ok false w := by
 cases d0 with
 | func x y z => simp [Op.equalIn, run_underlying ht]
 | _ => cases hd
theorem eq_func2 {P : Program} {t : TypeId} {d0 : TypeDesc} (ht : P.underlying t = some d0) (hd : (match d0 with | .func _ _ _ => true | _ => false) = true) (d : Nat) (w : World) : (Op.equalIn (d + 1) t .nilFunc .nilFunc).run P w = .ok true w := by
 cases d0 with
 | func x y z => simp [Op.equalIn, run_underlying ht]
 | _ => cases hd
theorem o_nilFn {t t' : TypeId} {x y : Operand} {d0 : TypeDesc} {f : Fn} {fs cs : List AV} {op : BinOp} {b : Bool} (hop0 : op = .eql ∧ b = false ∨ op = .neq ∧ b = true) (ht : P.underlying t = some d0) (hd : (match d0 with | .func _ _ _ => true | _ => false) = true) (hx : aev fr x = .fn f fs cs) (hy : aev fr y = .sc .nilFunc) :
  OpS P ⟨dst, .binOp op t x y t', ty, pos, after, guard⟩ fr H (Det (.sc (.bool b)) H) := fun g w ev hop hm => by
 have h1 := hop x (by simp [Op.operands])
 have h2 := hop y (by simp [Op.operands])
 rw [hx] at h1
 rw [hy] at h2
 have e2 := VR_sc h2
 obtain ⟨vf, vc, e1⟩ : ∃ vf vc, ev x = .func f vf vc := by
  generalize ev x = u at h1
  cases h1 with
  | fn _ _ _ vf vc _ _ _ _ => exact ⟨vf, vc, rfl⟩
 have hr := run_eq (w := w) (eq_func ht hd 9999 (f := f) (a := vf) (b := vc) w) rfl rfl
 have hg : eqGuard op t x y (ev x) (ev y) = pure () := by rw [e1, e2]; rcases hop0 with ⟨rfl, _⟩ | ⟨rfl, _⟩ <;> simp [go_sem]
 have : (execOp ev ⟨dst, .binOp op t x y t', ty, pos, after, guard⟩).run P w = .ok (.value (.bool b)) w := by
  rcases hop0 with ⟨rfl, rfl⟩ | ⟨rfl, rfl⟩
  ·simp only [execOp, Sem.run_bind, hg]
   simp only [e1, e2, hr.1, Result.andThen_ok, Sem.run_pure]
  ·simp only [execOp, Sem.run_bind, hg]
   simp only [e1, e2, hr.2, Result.andThen_ok, Sem.run_pure, Bool.not_false, Bool.not_true]
 rw [this]
 exact sr_here hm (.sc _) ⟨.refl _, rfl⟩
theorem o_nilFn0 {t t' : TypeId} {x y : Operand} {d0 : TypeDesc} {op : BinOp} {b : Bool} (hop0 : op = .eql ∧ b = true ∨ op = .neq ∧ b = false) (ht : P.underlying t = some d0) (hd : (match d0 with | .func _ _ _ => true | _ => false) = true) (hx : aev fr x = .sc .nilFunc) (hy : aev fr y = .sc .nilFunc) :
  OpS P ⟨dst, .binOp op t x y t', ty, pos, after, guard⟩ fr H (Det (.sc (.bool b)) H) := fun g w ev hop hm => by
 have h1 := hop x (by simp [Op.operands])
 have h2 := hop y (by simp [Op.operands])
 rw [hx] at h1
 rw [hy] at h2
 have e2 := VR_sc h2
 have e1 := VR_sc h1
 have hr := run_eq (w := w) (eq_func2 ht hd 9999 w) rfl rfl
 have hg : eqGuard op t x y (ev x) (ev y) = pure () := by rw [e1, e2]; rcases hop0 with ⟨rfl, _⟩ | ⟨rfl, _⟩ <;> simp [go_sem]
 have : (execOp ev ⟨dst, .binOp op t x y t', ty, pos, after, guard⟩).run P w = .ok (.value (.bool b)) w := by
  rcases hop0 with ⟨rfl, rfl⟩ | ⟨rfl, rfl⟩
  ·simp only [execOp, Sem.run_bind, hg]
   simp only [e1, e2, hr.1, Result.andThen_ok, Sem.run_pure]
  ·simp only [execOp, Sem.run_bind, hg]
   simp only [e1, e2, hr.2, Result.andThen_ok, Sem.run_pure, Bool.not_false, Bool.not_true]
 rw [this]
 exact sr_here hm (.sc _) ⟨.refl _, rfl⟩
end
end Go.Proofs.YtaaamoicidfgcaaGreat.Am
namespace Go.Proofs.YtaaamoicidfgcaaGreat.Am
open Go
set_option linter.unusedVariables false
def Tr.rd : Tr → AV
 | .av a => a
 | .sr z es => .sl z es .no
 | _ => .any
theorem TrR.rd {g : Gh} {n : Nat} {w : World} {ow : Nat → Option (List Nat)} {p : List Nat} {t : Tr} {v : Value} (h : TrR g n w ow p t v) : VR g n t.rd v := by
 cases h with
 | av _ a _ h => exact h
 | sr _ z es a len cap hl h hk => exact h
 | srn _ z => exact .nil z .no fun t e => by cases e
 | hs => exact .any _
 | hn => exact .any _
 | pt => exact .any _
 | mp => exact .any _
theorem EntR.rd {g : Gh} {n : Nat} {w : World} {id : Nat} {cs : List Tr} (h : EntR g n w id (.tr cs)) : EntR g n w id (.cells (cs.map Tr.rd)) := by
 rcases h with ⟨h1, h2⟩ | ⟨ow, h0, h1, h2, h3, h4, h5⟩
 ·exact .inl ⟨by rw [h1]; rfl, h2⟩
 refine .inr ⟨h0 _ _ h1, h2, by simpa using h3, h4, fun k c hc => ?_⟩
 rw [List.getElem?_map] at hc
 cases hk : cs[k]? with
 | none => rw [hk] at hc; cases hc
 | some t =>
  rw [hk] at hc; cases hc
  obtain ⟨v, hv, hr⟩ := h5 k t hk
  exact ⟨v, hv, hr.rd⟩
def setT (cs : List Tr) (k : Nat) : List AV → List Tr
 | [] => cs
 | v :: vs => setT (cs.set k (.av v)) (k + 1) vs
theorem setT_length (cs : List Tr) (k : Nat) (vs : List AV) : (setT cs k vs).length = cs.length := by
 induction vs generalizing cs k with
 | nil => rfl
 | cons v vs ih => simp only [setT]; rw [ih]; simp
theorem setT_lt (cs : List Tr) (k : Nat) (vs : List AV) {i : Nat} (h : i < k) : (setT cs k vs)[i]? = cs[i]? := by
 induction vs generalizing cs k with
 | nil => rfl
 | cons v vs ih => simp only [setT]; rw [ih _ _ (by omega), List.getElem?_set_ne (by omega)]
theorem setT_ge (cs : List Tr) (k : Nat) (vs : List AV) {i : Nat} (h : k + vs.length ≤ i) : (setT cs k vs)[i]? = cs[i]? := by
 induction vs generalizing cs k with
 | nil => rfl
 | cons v vs ih => simp only [setT]; simp only [List.length_cons] at h; rw [ih _ _ (by omega), List.getElem?_set_ne (by omega)]
theorem setT_in (cs : List Tr) (k : Nat) (vs : List AV) {j : Nat} (hj : j < vs.length) (h : k + vs.length ≤ cs.length) : (setT cs k vs)[k + j]? = (vs[j]?).map .av := by
 induction vs generalizing cs k j with
 | nil => simp at hj
 | cons v vs ih =>
  simp only [setT]
  simp only [List.length_cons] at h hj
  cases j with
  | zero =>
   rw [setT_lt _ _ _ (by omega)]
   have h3 : k < cs.length := by omega
   simp [List.getElem?_set_self h3]
  | succ j => rw [show k + (j + 1) = k + 1 + j by omega, ih _ _ (by omega) (by simp; omega)]; rfl
section
variable {P : Program} {fr : Frm} {H : Mem} {dst : Option Nat} {ty : TypeId} {pos : String} {after : Array Edge} {guard : Option (Nat × Bool)}
theorem o_loadT {t : TypeId} {x : Operand} {q : Nat × Nat × Option Value} {id off : Nat} {cs : List Tr} {c : Tr} {r : AV} (hag : aggT P t = some false) (hti : tinf P t = some q) (hx : aev fr x = .pt id off) (hm0 : H[id]? = some (.tr cs))
  (hc : cs[off]? = some c) (h : AVLe c.rd r) : OpS P ⟨dst, .load t x, ty, pos, after, guard⟩ fr H (Det r H) := fun g w ev hop hm => by
 have hm1 := hm.retell (hm.ent id _ hm0).rd
 have hx1 := hop x (by simp [Op.operands])
 have hlen : (H.set id (.cells (cs.map Tr.rd))).length = H.length := by simp
 obtain ⟨ad, e, u, hr, r', hk, hv⟩ := loadVar_sound (P := P) (t := t) (K := fun r _ => r = c.rd) hm1 (by rw [hlen]; exact hx1) (by
  simp only [aLoad, hag, hti, hx]
  rw [get_self hm0]
  simp only [List.getElem?_map, hc, Option.map_some])
 have : (execOp ev ⟨dst, .load t x, ty, pos, after, guard⟩).run P w = .ok (.value u) w := by
  simp only [execOp, Instr.loadAt, e, Instr.sureAddr, Sem.run_bind, Sem.run_pure, Result.andThen_ok, hr]
 rw [this]
 subst hk
 rw [hlen] at hv
 exact sr_here hm hv ⟨h, rfl⟩
theorem o_loadTA {t : TypeId} {x : Operand} {s b : Nat} {z : Option Value} {id off : Nat} {cs : List Tr} {r : AV} (hag : aggT P t = some true) (hti : tinf P t = some (s, b, z)) (hx : aev fr x = .pt id off) (hm0 : H[id]? = some (.tr cs))
  (hl : off + s ≤ cs.length) (h : AVLe (.ag (((cs.drop off).take s).map Tr.rd)) r) : OpS P ⟨dst, .load t x, ty, pos, after, guard⟩ fr H (Det r H) := fun g w ev hop hm => by
 have hm1 := hm.retell (hm.ent id _ hm0).rd
 have hx1 := hop x (by simp [Op.operands])
 have hlen : (H.set id (.cells (cs.map Tr.rd))).length = H.length := by simp
 obtain ⟨ad, e, u, hr, r', hk, hv⟩ := loadVar_sound (P := P) (t := t) (K := fun r _ => r = .ag (((cs.drop off).take s).map Tr.rd)) hm1 (by rw [hlen]; exact hx1) (by
  simp only [aLoad, hag, hti, hx]
  rw [get_self hm0]
  exact ⟨by simpa using hl, by rw [List.map_take, List.map_drop]⟩)
 have : (execOp ev ⟨dst, .load t x, ty, pos, after, guard⟩).run P w = .ok (.value u) w := by
  simp only [execOp, Instr.loadAt, e, Instr.sureAddr, Sem.run_bind, Sem.run_pure, Result.andThen_ok, hr]
 rw [this]
 subst hk
 rw [hlen] at hv
 exact sr_here hm hv ⟨h, rfl⟩
theorem MR.putT {g : Gh} {H : Mem} {w w1 : World} {id : Nat} {cs cs' : List Tr} {c c' : Array Value} {e : TypeId} {fr : Nat × Nat} (hm : MR g H w) (hid : H[id]? = some (.tr cs)) (hne0 : cs ≠ [])
  (hb : w.heap[(g.mu id).b]? = some (.cells c e fr)) (hu : Upd w w1 (g.mu id).b (.cells c' e fr)) (hs : c'.size = c.size) (hl : cs'.length = cs.length)
  (hv : ∀ (k : Nat) t, cs'[k]? = some t → (cs[k]? = some t ∧ c'[(g.mu id).o + k]? = c[(g.mu id).o + k]?) ∨ ∃ a v, t = .av a ∧ c'[(g.mu id).o + k]? = some v ∧ VR g H.length a v) :
  MR g (H.set id (.tr cs')) w1 ∧ Ev H.length g w g w1 := by
 have hx := hm.ent id _ hid
 obtain ⟨ow, h0, h1, h2, h3, h4, h5⟩ := hx.resolve_left fun h => hne0 h.1
 have h1' := h0 _ _ h1
 have hlt := (hm.ow _ _ h1').1
 refine ⟨⟨fun b o v hro => ?_, fun id' x hx => ?_, fun b id' ho => ?_⟩, ⟨.refl _ _, fun b hb' ho => ⟨ho, hu.other fun hbb => ?_⟩, by rw [hu.size]; omega, hu.os, hu.tape, hu.output⟩⟩
 ·have := hm.ro b o v hro
  rw [hu.cell_other]
  ·exact this
  ·intro hbb; simp only at hbb; rw [hbb, h4] at hro; cases hro
 ·rcases get_set hx with ⟨hne, hx⟩ | ⟨rfl, rfl, _⟩
  ·have hid' := lt_of_get hx
   have he := hm.ent id' x hx
   rcases he.own hid' with hfr' | hown
   ·exact hfr' _ _ _ (.refl _ _)
   ·refine he.keep hid' (.refl _ _) (by simp) fun b hown => ⟨hown, fun _ => rfl, hu.other fun hbb => ?_⟩
    rw [hbb, h1'] at hown; cases hown; exact hne rfl
  ·simp only [EntR]
   refine .inr ⟨ow, h0, h1, ?_, by omega, h4, fun k t ht => ?_⟩
   ·obtain ⟨c2, e2, fr2, g1, g2, g3⟩ := h2
    rw [hb] at g1; cases g1
    exact ⟨c', e, fr, hu.same hlt, by omega, g3⟩
   ·rcases hv k t ht with ⟨q1, q2⟩ | ⟨a, v, rfl, q1, q2⟩
    ·obtain ⟨v, v1, v2⟩ := h5 k t q1
     refine ⟨v, ?_, v2.move (.refl _ _) (by simp) [k] fun b r hr => ⟨hr, fun _ => rfl, hu.other fun hbb => ?_⟩⟩
     ·unfold World.cell? at v1 ⊢
      rw [hu.same hlt]
      simp only [hb] at v1
      rw [if_neg (by simp)] at v1
      show c'[_]? = _
      rw [q2]; exact v1
     ·rw [hbb, h1] at hr; simp at hr
    ·refine ⟨v, ?_, .av _ _ _ (by simpa using q2)⟩
     unfold World.cell?
     rw [hu.same hlt]; exact q1
 ·have := hm.ow b id' ho
  rw [hu.size]; exact ⟨this.1, by simpa using this.2⟩
 ·rw [hbb, h1'] at ho; cases ho
theorem o_storeT {t : TypeId} {x y : Operand} {sz by_ : Nat} {z : Option Value} {id off : Nat} {cs cs' : List Tr} {v : AV} {H1 : Mem} (hti : tinf P t = some (sz, by_, z)) (hx0 : aev fr x = .pt id off) (hy0 : aev fr y = v) (he : H[id]? = some (.tr cs))
  (hsz0 : sz ≠ 0) (hf : v.flat = true) (hlen : v.cells.length = sz) (hcel : v.cells.all AV.cellish = true) (hoff : off + sz ≤ cs.length) (hse : setT cs off v.cells = cs') (hM : H1 = H.set id (.tr cs')) :
  OpS P ⟨dst, .store t x y, ty, pos, after, guard⟩ fr H (Det undefA H1) := fun g w ev hop hm => by
 subst hy0 hse hM
 have hx := hop x (by simp [Op.operands])
 have hy := hop y (by simp [Op.operands])
 rw [hx0] at hx
 have hne0 : cs ≠ [] := fun e => by rw [e] at hoff; simp at hoff; omega
 have hcells := hy.cells hf
 have hsz : (ev y).cells.size = sz := hcells.1.trans hlen
 obtain ⟨h1, h2, h3, h4, h5⟩ := (hm.retell (hm.ent id _ he).rd).owned (get_self he) (.inl (by simpa using hne0))
 obtain ⟨c, el, frz, hb, hl, hfr⟩ := h2
 rw [List.length_map] at h3
 rw [show (H.set id (.cells (cs.map Tr.rd))).length = H.length by simp] at h5
 generalize hvx : ev x = vx at *
 cases hx with
 | pt _ _ hid =>
  have hlist : (ev y).cells.toList.length = sz := by simpa using hsz
  obtain ⟨w1, hr, hu⟩ := run_storeCells (P := P) el frz ⟨(g.mu id).b, (g.mu id).o + off, none⟩ rfl (ev y).cells.toList 0 w c hb (oneCells hcells hcel) (by simp only [hlist]; omega) (fun o a1 a2 => hfr o (by simp only [hlist] at a2; omega))
  have : (execOp ev ⟨dst, .store t x y, ty, pos, after, guard⟩).run P w = .ok .skip w1 := by
   simp only [execOp, Instr.storeAt, hvx, Instr.sureAddr, Sem.run_bind, Sem.run_pure, Result.andThen_ok, storeVar, run_sizeOf hti, hsz, ne_eq, not_true_eq_false, if_false, Sem.run_ite, hr]
  rw [this]
  have hrel := setAt_rel (m := (g.mu id).o) (k := off) (fun i a ha => by
   obtain ⟨v, q1, q2⟩ := h5 i a ha
   refine ⟨v, ?_, q2⟩
   unfold World.cell? at q1; simp only [hb] at q1; rw [if_neg (by simp)] at q1; exact q1) (vs := (aev fr y).cells) (ws := (ev y).cells.toList) (by simpa using hcells) (by simp; omega) (by simp; omega)
  obtain ⟨m1, m2⟩ := hm.putT (cs' := setT cs off (aev fr y).cells) he hne0 hb hu (updA_size _ _ _) (setT_length _ _ _) (fun k t ht => by
   simp only [Nat.add_zero]
   rcases Nat.lt_or_ge k off with h | h
   ·rw [setT_lt _ _ _ h] at ht
    exact .inl ⟨ht, updA_lt _ _ _ (by omega)⟩
   ·rcases Nat.lt_or_ge k (off + sz) with h2 | h2
    ·obtain ⟨j, rfl⟩ : ∃ j, k = off + j := ⟨k - off, by omega⟩
     rw [setT_in _ _ _ (by omega) (by omega)] at ht
     cases hj : (aev fr y).cells[j]? with
     | none => rw [hj] at ht; cases ht
     | some a =>
      rw [hj] at ht; cases ht
      obtain ⟨v, q1, q2⟩ := hrel (off + j) a (by rw [setAt_in _ _ _ (by omega) (by simp; omega), hj])
      exact .inr ⟨a, v, rfl, q1, q2⟩
    ·rw [setT_ge _ _ _ (by omega)] at ht
     exact .inl ⟨ht, updA_ge _ _ _ (by rw [hlist]; omega)⟩)
  exact ⟨_, _, g, ⟨.refl _, rfl⟩, .sc _, m1, m2, by simp⟩
theorem idx_cellsT {α : Type} (f : α → AV) (pre post : List Tr) {l : List α} {i : Int} {x : α} (h : idx l i = some x) : (pre ++ (l.map (fun b => Tr.av (f b)) ++ post))[pre.length + i.toNat * 1]? = some (.av (f x)) := by
 unfold idx at h
 split at h
 ·rw [Nat.mul_one, List.getElem?_append_right (Nat.le_add_right _ _), Nat.add_sub_cancel_left, List.getElem?_append_left (by simpa using lt_of_get h), List.getElem?_map, h]; rfl
 ·cases h
theorem put_cellsT {α : Type} (f : α → AV) (pre post : List Tr) {l l' : List α} {i : Int} {x v : α} (h : idx l i = some x) (hl : l.set i.toNat v = l') : setT (pre ++ (l.map (fun b => Tr.av (f b)) ++ post)) (pre.length + i.toNat * 1) [f v] = pre ++ (l'.map (fun b => Tr.av (f b)) ++ post) := by
 have h1 := idx_lt h
 have h2 : i.toNat < (l.map (fun b => Tr.av (f b))).length := by rw [List.length_map]; omega
 subst hl
 simp only [setT]
 rw [Nat.mul_one, List.set_append_right _ _ (Nat.le_add_right _ _), Nat.add_sub_cancel_left, List.set_append_left _ _ h2, List.map_set]
theorem in_cellsT {α : Type} (pre post : List Tr) {l : List α} {i : Int} {x : α} {m : Nat} (h : idx l i = some x) (hm : pre.length + l.length + post.length = m) : pre.length + i.toNat * 1 + 1 ≤ m := by
 have h1 := idx_lt h
 omega
end
end Go.Proofs.YtaaamoicidfgcaaGreat.Am
namespace Go.Proofs.YtaaamoicidfgcaaGreat.Am
open Go
set_option linter.unusedVariables false
section
variable {P : Program} {fr : Frm} {H : Mem} {dst : Option Nat} {ty : TypeId} {pos : String} {after : Array Edge} {guard : Option (Nat × Bool)}
theorem o_insert {β : Type} {kd : IntKind} {v : β → AV} {t kt e : TypeId} {x y u : Operand} {id : Nat} {l : List (Int × β)} {n : Int} {b : β} {H1 : Mem} (ht : P.underlying t = some (.map kt e)) (hk : P.underlying kt = some (.int kd))
  (hx : aev fr x = .mp id) (hid : H[id]? = some (.map (ent kd v l))) (hy : aev fr y = .sc (.int kd n)) (hu : AVLe (aev fr u) (v b)) (hM : H1 = H.set id (.map (ent kd v (mset l n b)))) :
  OpS P ⟨dst, .insert t x y u, ty, pos, after, guard⟩ fr H (Det undefA H1) := fun g w ev hop hm =>
 o_mapUpdate (P := P) (fr := fr) (dst := dst) (ty := ty) (pos := pos) (after := after) (guard := guard) ht hk hx hid hy hu hM g w ev hop hm
end
theorem fsel_s {o : Option AV} {d a : AV} (h : o = some a) : AVLe (o.getD d) a := by rw [h]; exact .refl _
theorem fsel_n {o : Option AV} {d : AV} (h : o = none) : AVLe (o.getD d) d := by rw [h]; exact .refl _
theorem pre_at0 {A M M1 : Mem} {p : Nat} {c x : Ent} (h : M1 = M.set p x) (hp : A.set p c <+: M) (hl : p < A.length) : A.set p x <+: M1 := by
 have q := pre_lo (i := p) (x := x) hp (by simpa using hl)
 rw [h]; rw [List.set_set] at q; exact q
theorem pre_at1 {A M M1 : Mem} {p q1 : Nat} {c d1 x : Ent} (h : M1 = M.set p x) (hp : (A.set p c).set q1 d1 <+: M) (hl : p < A.length) (n1 : q1 ≠ p) : (A.set p x).set q1 d1 <+: M1 := by
 rw [List.set_comm _ _ n1.symm] at hp
 have q := pre_at0 h hp (by simpa using hl)
 rw [List.set_comm _ _ n1] at q; exact q
theorem pre_at2 {A M M1 : Mem} {p q1 q2 : Nat} {c d1 d2 x : Ent} (h : M1 = M.set p x) (hp : ((A.set p c).set q1 d1).set q2 d2 <+: M) (hl : p < A.length) (n1 : q1 ≠ p) (n2 : q2 ≠ p) : ((A.set p x).set q1 d1).set q2 d2 <+: M1 := by
 rw [List.set_comm _ _ n1.symm, List.set_comm _ _ n2.symm] at hp
 have q := pre_at0 h hp (by simpa using hl)
 rw [List.set_comm _ _ n2, List.set_comm _ _ n1] at q; exact q
abbrev Tr.CloN (n : Nat) (t : Tr) : Prop := t.All (Am.Bd n)
theorem CloN.nil {n : Nat} : ∀ c ∈ ([] : List Tr), c.CloN n := fun c h => by cases h
theorem CloN.cons {n : Nat} {t : Tr} {l : List Tr} (h : t.CloN n) (hl : ∀ c ∈ l, c.CloN n) : ∀ c ∈ t :: l, c.CloN n := fun c hc => by
 rcases List.mem_cons.1 hc with rfl | hc
 ·exact h
 ·exact hl c hc
theorem CloN.of {n : Nat} {t : Tr} (h : t.Clo) : t.CloN n := h.mono fun _ ha => AV.clo1_bd ha
theorem MBd.setTrB {H : Mem} {p : Nat} {cs : List Tr} (hH : MBd H) (hc : ∀ c ∈ cs, c.CloN H.length) : MBd (H.set p (.tr cs)) := fun id e he => by
 rw [List.length_set]
 rcases get_set he with ⟨_, he⟩ | ⟨rfl, rfl, _⟩
 ·exact hH id e he
 ·exact fun i c hc' => hc c (List.mem_of_getElem? hc')
end Go.Proofs.YtaaamoicidfgcaaGreat.Am
namespace Go.Proofs.YtaaamoicidfgcaaGreat.Am
open Go
theorem ti2 : tinf Tryz.prog 2 = some (1, 8, some (.int .i64 0)) := by kernel_rfl
theorem ti3 : tinf Tryz.prog 3 = some (1, 8, some (.int .i64 0)) := by kernel_rfl
theorem ag3 : aggT Tryz.prog 3 = some false := by kernel_rfl
theorem ti4 : tinf Tryz.prog 4 = some (1, 1, some (.bool false)) := by kernel_rfl
theorem ag4 : aggT Tryz.prog 4 = some false := by kernel_rfl
theorem ti5 : tinf Tryz.prog 5 = some (1, 1, some (.int .u8 0)) := by kernel_rfl
theorem ag5 : aggT Tryz.prog 5 = some false := by kernel_rfl
theorem ti25 : tinf Tryz.prog 25 = some (2, 16, some (.agg #[(.int .i64 0), (.int .i64 0)])) := by kernel_rfl
theorem ag25 : aggT Tryz.prog 25 = some true := by kernel_rfl
theorem ti26 : tinf Tryz.prog 26 = some (1, 24, some (.slice none 0 0)) := by kernel_rfl
theorem ag26 : aggT Tryz.prog 26 = some false := by kernel_rfl
theorem ti27 : tinf Tryz.prog 27 = some (1, 24, some (.slice none 0 0)) := by kernel_rfl
theorem ag27 : aggT Tryz.prog 27 = some false := by kernel_rfl
theorem ti29 : tinf Tryz.prog 29 = some (4, 64, some (.agg #[(.int .i64 0), (.int .i64 0), (.slice none 0 0), (.slice none 0 0)])) := by kernel_rfl
theorem ag29 : aggT Tryz.prog 29 = some true := by kernel_rfl
theorem ti30 : tinf Tryz.prog 30 = some (1, 24, some (.slice none 0 0)) := by kernel_rfl
theorem ag30 : aggT Tryz.prog 30 = some false := by kernel_rfl
theorem ti32 : tinf Tryz.prog 32 = some (7, 104, some (.agg #[(.int .i64 0), (.int .i64 0), (.int .i64 0), (.int .i64 0), (.slice none 0 0), (.slice none 0 0), (.slice none 0 0)])) := by kernel_rfl
theorem ag32 : aggT Tryz.prog 32 = some true := by kernel_rfl
theorem ti43 : tinf Tryz.prog 43 = some (1, 24, some (.slice none 0 0)) := by kernel_rfl
theorem ag43 : aggT Tryz.prog 43 = some false := by kernel_rfl
theorem ti44 : tinf Tryz.prog 44 = some (1, 24, some (.slice none 0 0)) := by kernel_rfl
theorem ag44 : aggT Tryz.prog 44 = some false := by kernel_rfl
theorem ti46 : tinf Tryz.prog 46 = some (3, 56, some (.agg #[(.slice none 0 0), (.slice none 0 0), (.bool false)])) := by kernel_rfl
theorem ag46 : aggT Tryz.prog 46 = some true := by kernel_rfl
theorem ti53 : tinf Tryz.prog 53 = some (1, 8, some (.pointer none)) := by kernel_rfl
theorem ag53 : aggT Tryz.prog 53 = some false := by kernel_rfl
theorem ti54 : tinf Tryz.prog 54 = some (7, 56, some (.agg #[(.int .i64 0), (.int .i64 0), (.int .i64 0), (.int .i64 0), (.int .i64 0), (.int .i64 0), (.int .i64 0)])) := by kernel_rfl
theorem ti56 : tinf Tryz.prog 56 = some (26, 224, some (.agg #[(.int .i64 0), (.int .i64 0), (.pointer none), (.int .i64 0), (.int .i64 0), (.int .i64 0), (.int .i64 0), (.int .i64 0), (.int .i64 0), (.int .i64 0), (.int .i64 0), (.slice none 0 0), (.int .i64 0), (.int .i64 0), (.int .i64 0), (.int .i64 0), (.int .i64 0), (.int .i64 0), (.int .i64 0), (.int .i64 0), (.int .i64 0), (.int .i64 0), (.int .i64 0), (.int .i64 0), (.int .i64 0), (.int .i64 0)])) := by kernel_rfl
theorem ti58 : tinf Tryz.prog 58 = some (26, 224, some (.agg #[(.int .i64 0), (.int .i64 0), (.pointer none), (.int .i64 0), (.int .i64 0), (.int .i64 0), (.int .i64 0), (.int .i64 0), (.int .i64 0), (.int .i64 0), (.int .i64 0), (.slice none 0 0), (.int .i64 0), (.int .i64 0), (.int .i64 0), (.int .i64 0), (.int .i64 0), (.int .i64 0), (.int .i64 0), (.int .i64 0), (.int .i64 0), (.int .i64 0), (.int .i64 0), (.int .i64 0), (.int .i64 0), (.int .i64 0)])) := by kernel_rfl
theorem ag58 : aggT Tryz.prog 58 = some true := by kernel_rfl
theorem ti61 : tinf Tryz.prog 61 = some (19, 216, some (.agg #[(.int .i64 0), (.int .i64 0), (.int .i64 0), (.int .i64 0), (.int .i64 0), (.int .i64 0), (.int .i64 0), (.int .i64 0), (.bool false), (.slice none 0 0), (.int .i64 0), (.int .i64 0), (.slice none 0 0), (.slice none 0 0), (.slice none 0 0), (.int .i64 0), (.int .i64 0), (.int .i64 0), (.int .i64 0)])) := by kernel_rfl
theorem ag61 : aggT Tryz.prog 61 = some true := by kernel_rfl
theorem ti68 : tinf Tryz.prog 68 = some (4, 48, some (.agg #[(.int .i64 0), (.int .i64 0), (.int .i64 0), (.slice none 0 0)])) := by kernel_rfl
theorem ag68 : aggT Tryz.prog 68 = some true := by kernel_rfl
theorem ti94 : tinf Tryz.prog 94 = some (5, 88, some (.agg #[(.int .i64 0), (.int .i64 0), (.slice none 0 0), (.slice none 0 0), (.slice none 0 0)])) := by kernel_rfl
theorem ti96 : tinf Tryz.prog 96 = some (5, 88, some (.agg #[(.int .i64 0), (.int .i64 0), (.slice none 0 0), (.slice none 0 0), (.slice none 0 0)])) := by kernel_rfl
theorem ti110 : tinf Tryz.prog 110 = some (1, 8, some .nilFunc) := by kernel_rfl
theorem ti124 : tinf Tryz.prog 124 = some (12, 144, some (.agg #[(.int .i64 0), (.int .i64 0), (.int .i64 0), (.int .i64 0), (.int .i64 0), (.int .i64 0), (.int .i64 0), (.slice none 0 0), (.int .i64 0), (.int .i64 0), (.slice none 0 0), (.slice none 0 0)])) := by kernel_rfl
def pl25 (i : Nat) : Option (Nat × Nat) := [(0, 1), (1, 1)][i]?
theorem fp25 (fs : Array Field) (h : Tryz.prog.underlying 25 = some (.struct fs)) : ∀ i, fplace Tryz.prog fs i = pl25 i := by
 rw [Tryz.underlying25] at h
 cases h
 intro i
 match i with
 | 0 => simp [fplace, pl25, ti3]
 | 1 => simp [fplace, pl25, ti3]
 | n + 2 => simp [fplace, pl25]
theorem fa25 (fs : Array Field) (h : Tryz.prog.underlying 25 = some (.struct fs)) : fs.all (fun f => (tinf Tryz.prog f.type).isSome) = true := by
 rw [Tryz.underlying25] at h
 cases h
 simp [ti3]
def pl29 (i : Nat) : Option (Nat × Nat) := [(0, 1), (1, 1), (2, 1), (3, 1)][i]?
theorem fp29 (fs : Array Field) (h : Tryz.prog.underlying 29 = some (.struct fs)) : ∀ i, fplace Tryz.prog fs i = pl29 i := by
 rw [Tryz.underlying29] at h
 cases h
 intro i
 match i with
 | 0 => simp [fplace, pl29, ti3]
 | 1 => simp [fplace, pl29, ti3]
 | 2 => simp [fplace, pl29, ti26]
 | 3 => simp [fplace, pl29, ti27]
 | n + 4 => simp [fplace, pl29]
theorem fa29 (fs : Array Field) (h : Tryz.prog.underlying 29 = some (.struct fs)) : fs.all (fun f => (tinf Tryz.prog f.type).isSome) = true := by
 rw [Tryz.underlying29] at h
 cases h
 simp [ti26, ti27, ti3]
def pl32 (i : Nat) : Option (Nat × Nat) := [(0, 2), (2, 4), (6, 1)][i]?
theorem fp32 (fs : Array Field) (h : Tryz.prog.underlying 32 = some (.struct fs)) : ∀ i, fplace Tryz.prog fs i = pl32 i := by
 rw [Tryz.underlying32] at h
 cases h
 intro i
 match i with
 | 0 => simp [fplace, pl32, ti25]
 | 1 => simp [fplace, pl32, ti29]
 | 2 => simp [fplace, pl32, ti30]
 | n + 3 => simp [fplace, pl32]
theorem fa32 (fs : Array Field) (h : Tryz.prog.underlying 32 = some (.struct fs)) : fs.all (fun f => (tinf Tryz.prog f.type).isSome) = true := by
 rw [Tryz.underlying32] at h
 cases h
 simp [ti25, ti29, ti30]
def pl56 (i : Nat) : Option (Nat × Nat) := [(0, 1), (1, 1), (2, 1), (3, 2), (5, 1), (6, 1), (7, 1), (8, 1), (9, 1), (10, 1), (11, 1), (12, 7), (19, 7)][i]?
theorem fp56 (fs : Array Field) (h : Tryz.prog.underlying 56 = some (.struct fs)) : ∀ i, fplace Tryz.prog fs i = pl56 i := by
 rw [Tryz.underlying56] at h
 cases h
 intro i
 match i with
 | 0 => simp [fplace, pl56, ti3]
 | 1 => simp [fplace, pl56, ti3]
 | 2 => simp [fplace, pl56, ti53]
 | 3 => simp [fplace, pl56, ti25]
 | 4 => simp [fplace, pl56, ti3]
 | 5 => simp [fplace, pl56, ti3]
 | 6 => simp [fplace, pl56, ti3]
 | 7 => simp [fplace, pl56, ti3]
 | 8 => simp [fplace, pl56, ti3]
 | 9 => simp [fplace, pl56, ti3]
 | 10 => simp [fplace, pl56, ti26]
 | 11 => simp [fplace, pl56, ti54]
 | 12 => simp [fplace, pl56, ti54]
 | n + 13 => simp [fplace, pl56]
theorem fa56 (fs : Array Field) (h : Tryz.prog.underlying 56 = some (.struct fs)) : fs.all (fun f => (tinf Tryz.prog f.type).isSome) = true := by
 rw [Tryz.underlying56] at h
 cases h
 simp [ti25, ti26, ti3, ti53, ti54]
def pl58 (i : Nat) : Option (Nat × Nat) := [(0, 26)][i]?
theorem fp58 (fs : Array Field) (h : Tryz.prog.underlying 58 = some (.struct fs)) : ∀ i, fplace Tryz.prog fs i = pl58 i := by
 rw [Tryz.underlying58] at h
 cases h
 intro i
 match i with
 | 0 => simp [fplace, pl58, ti56]
 | n + 1 => simp [fplace, pl58]
theorem fa58 (fs : Array Field) (h : Tryz.prog.underlying 58 = some (.struct fs)) : fs.all (fun f => (tinf Tryz.prog f.type).isSome) = true := by
 rw [Tryz.underlying58] at h
 cases h
 simp [ti56]
def pl61 (i : Nat) : Option (Nat × Nat) := [(0, 1), (1, 1), (2, 1), (3, 1), (4, 1), (5, 1), (6, 1), (7, 1), (8, 1), (9, 1), (10, 4), (14, 1), (15, 1), (16, 1), (17, 1), (18, 1)][i]?
theorem fp61 (fs : Array Field) (h : Tryz.prog.underlying 61 = some (.struct fs)) : ∀ i, fplace Tryz.prog fs i = pl61 i := by
 rw [Tryz.underlying61] at h
 cases h
 intro i
 match i with
 | 0 => simp [fplace, pl61, ti3]
 | 1 => simp [fplace, pl61, ti3]
 | 2 => simp [fplace, pl61, ti3]
 | 3 => simp [fplace, pl61, ti3]
 | 4 => simp [fplace, pl61, ti3]
 | 5 => simp [fplace, pl61, ti3]
 | 6 => simp [fplace, pl61, ti3]
 | 7 => simp [fplace, pl61, ti3]
 | 8 => simp [fplace, pl61, ti4]
 | 9 => simp [fplace, pl61, ti30]
 | 10 => simp [fplace, pl61, ti29]
 | 11 => simp [fplace, pl61, ti27]
 | 12 => simp [fplace, pl61, ti3]
 | 13 => simp [fplace, pl61, ti3]
 | 14 => simp [fplace, pl61, ti2]
 | 15 => simp [fplace, pl61, ti2]
 | n + 16 => simp [fplace, pl61]
theorem fa61 (fs : Array Field) (h : Tryz.prog.underlying 61 = some (.struct fs)) : fs.all (fun f => (tinf Tryz.prog f.type).isSome) = true := by
 rw [Tryz.underlying61] at h
 cases h
 simp [ti2, ti27, ti29, ti3, ti30, ti4]
def pl68 (i : Nat) : Option (Nat × Nat) := [(0, 1), (1, 1), (2, 1), (3, 1)][i]?
theorem fp68 (fs : Array Field) (h : Tryz.prog.underlying 68 = some (.struct fs)) : ∀ i, fplace Tryz.prog fs i = pl68 i := by
 rw [Tryz.underlying68] at h
 cases h
 intro i
 match i with
 | 0 => simp [fplace, pl68, ti3]
 | 1 => simp [fplace, pl68, ti3]
 | 2 => simp [fplace, pl68, ti3]
 | 3 => simp [fplace, pl68, ti27]
 | n + 4 => simp [fplace, pl68]
theorem fa68 (fs : Array Field) (h : Tryz.prog.underlying 68 = some (.struct fs)) : fs.all (fun f => (tinf Tryz.prog f.type).isSome) = true := by
 rw [Tryz.underlying68] at h
 cases h
 simp [ti27, ti3]
def pl94 (i : Nat) : Option (Nat × Nat) := [(0, 4), (4, 1)][i]?
theorem fp94 (fs : Array Field) (h : Tryz.prog.underlying 94 = some (.struct fs)) : ∀ i, fplace Tryz.prog fs i = pl94 i := by
 rw [Tryz.underlying94] at h
 cases h
 intro i
 match i with
 | 0 => simp [fplace, pl94, ti29]
 | 1 => simp [fplace, pl94, ti30]
 | n + 2 => simp [fplace, pl94]
theorem fa94 (fs : Array Field) (h : Tryz.prog.underlying 94 = some (.struct fs)) : fs.all (fun f => (tinf Tryz.prog f.type).isSome) = true := by
 rw [Tryz.underlying94] at h
 cases h
 simp [ti29, ti30]
def pl96 (i : Nat) : Option (Nat × Nat) := [(0, 5)][i]?
theorem fp96 (fs : Array Field) (h : Tryz.prog.underlying 96 = some (.struct fs)) : ∀ i, fplace Tryz.prog fs i = pl96 i := by
 rw [Tryz.underlying96] at h
 cases h
 intro i
 match i with
 | 0 => simp [fplace, pl96, ti94]
 | n + 1 => simp [fplace, pl96]
theorem fa96 (fs : Array Field) (h : Tryz.prog.underlying 96 = some (.struct fs)) : fs.all (fun f => (tinf Tryz.prog f.type).isSome) = true := by
 rw [Tryz.underlying96] at h
 cases h
 simp [ti94]
def pl124 (i : Nat) : Option (Nat × Nat) := [(0, 1), (1, 1), (2, 2), (4, 4), (8, 4)][i]?
theorem fp124 (fs : Array Field) (h : Tryz.prog.underlying 124 = some (.struct fs)) : ∀ i, fplace Tryz.prog fs i = pl124 i := by
 rw [Tryz.underlying124] at h
 cases h
 intro i
 match i with
 | 0 => simp [fplace, pl124, ti3]
 | 1 => simp [fplace, pl124, ti3]
 | 2 => simp [fplace, pl124, ti25]
 | 3 => simp [fplace, pl124, ti68]
 | 4 => simp [fplace, pl124, ti29]
 | n + 5 => simp [fplace, pl124]
theorem fa124 (fs : Array Field) (h : Tryz.prog.underlying 124 = some (.struct fs)) : fs.all (fun f => (tinf Tryz.prog f.type).isSome) = true := by
 rw [Tryz.underlying124] at h
 cases h
 simp [ti25, ti29, ti3, ti68]
theorem cl5 : callable Tryz.prog 5 = true := by kernel_rfl
theorem cl10 : callable Tryz.prog 10 = true := by kernel_rfl
theorem cl11 : callable Tryz.prog 11 = true := by kernel_rfl
theorem cl14 : callable Tryz.prog 14 = true := by kernel_rfl
theorem cl18 : callable Tryz.prog 18 = true := by kernel_rfl
theorem cl20 : callable Tryz.prog 20 = true := by kernel_rfl
theorem cl23 : callable Tryz.prog 23 = true := by kernel_rfl
theorem cl25 : callable Tryz.prog 25 = true := by kernel_rfl
theorem cl26 : callable Tryz.prog 26 = true := by kernel_rfl
theorem cl27 : callable Tryz.prog 27 = true := by kernel_rfl
theorem cl28 : callable Tryz.prog 28 = true := by kernel_rfl
theorem cl29 : callable Tryz.prog 29 = true := by kernel_rfl
theorem cl30 : callable Tryz.prog 30 = true := by kernel_rfl
theorem cl31 : callable Tryz.prog 31 = true := by kernel_rfl
theorem cl32 : callable Tryz.prog 32 = true := by kernel_rfl
theorem cl33 : callable Tryz.prog 33 = true := by kernel_rfl
theorem cl34 : callable Tryz.prog 34 = true := by kernel_rfl
theorem cl35 : callable Tryz.prog 35 = true := by kernel_rfl
theorem cl36 : callable Tryz.prog 36 = true := by kernel_rfl
theorem cl39 : callable Tryz.prog 39 = true := by kernel_rfl
theorem cl40 : callable Tryz.prog 40 = true := by kernel_rfl
theorem cl41 : callable Tryz.prog 41 = true := by kernel_rfl
theorem cl46 : callable Tryz.prog 46 = true := by kernel_rfl
theorem cl47 : callable Tryz.prog 47 = true := by kernel_rfl
theorem cl48 : callable Tryz.prog 48 = true := by kernel_rfl
theorem cl49 : callable Tryz.prog 49 = true := by kernel_rfl
theorem cl58 : callable Tryz.prog 58 = true := by kernel_rfl
theorem cl59 : callable Tryz.prog 59 = true := by kernel_rfl
theorem cl60 : callable Tryz.prog 60 = true := by kernel_rfl
theorem cl61 : callable Tryz.prog 61 = true := by kernel_rfl
theorem cl62 : callable Tryz.prog 62 = true := by kernel_rfl
theorem cl63 : callable Tryz.prog 63 = true := by kernel_rfl
theorem cl64 : callable Tryz.prog 64 = true := by kernel_rfl
theorem cl65 : callable Tryz.prog 65 = true := by kernel_rfl
theorem cl66 : callable Tryz.prog 66 = true := by kernel_rfl
theorem cl67 : callable Tryz.prog 67 = true := by kernel_rfl
theorem cl74 : callable Tryz.prog 74 = true := by kernel_rfl
theorem cl75 : callable Tryz.prog 75 = true := by kernel_rfl
theorem cl76 : callable Tryz.prog 76 = true := by kernel_rfl
theorem cl77 : callable Tryz.prog 77 = true := by kernel_rfl
theorem cl78 : callable Tryz.prog 78 = true := by kernel_rfl
theorem cl79 : callable Tryz.prog 79 = true := by kernel_rfl
theorem cl80 : callable Tryz.prog 80 = true := by kernel_rfl
theorem cl81 : callable Tryz.prog 81 = true := by kernel_rfl
theorem cl82 : callable Tryz.prog 82 = true := by kernel_rfl
theorem cl83 : callable Tryz.prog 83 = true := by kernel_rfl
theorem cl84 : callable Tryz.prog 84 = true := by kernel_rfl
theorem cl85 : callable Tryz.prog 85 = true := by kernel_rfl
theorem cl92 : callable Tryz.prog 92 = true := by kernel_rfl
theorem cl93 : callable Tryz.prog 93 = true := by kernel_rfl
theorem cl94 : callable Tryz.prog 94 = true := by kernel_rfl
theorem cl95 : callable Tryz.prog 95 = true := by kernel_rfl
theorem cl96 : callable Tryz.prog 96 = true := by kernel_rfl
theorem cl97 : callable Tryz.prog 97 = true := by kernel_rfl
theorem cl98 : callable Tryz.prog 98 = true := by kernel_rfl
theorem cl102 : callable Tryz.prog 102 = true := by kernel_rfl
theorem cl103 : callable Tryz.prog 103 = true := by kernel_rfl
theorem cl104 : callable Tryz.prog 104 = true := by kernel_rfl
theorem cl105 : callable Tryz.prog 105 = true := by kernel_rfl
theorem cl106 : callable Tryz.prog 106 = true := by kernel_rfl
theorem cl107 : callable Tryz.prog 107 = true := by kernel_rfl
theorem cl108 : callable Tryz.prog 108 = true := by kernel_rfl
theorem cl109 : callable Tryz.prog 109 = true := by kernel_rfl
theorem cl110 : callable Tryz.prog 110 = true := by kernel_rfl
theorem cl120 : callable Tryz.prog 120 = true := by kernel_rfl
theorem cl121 : callable Tryz.prog 121 = true := by kernel_rfl
theorem cl122 : callable Tryz.prog 122 = true := by kernel_rfl
theorem cl124 : callable Tryz.prog 124 = true := by kernel_rfl
theorem cl125 : callable Tryz.prog 125 = true := by kernel_rfl
theorem cl126 : callable Tryz.prog 126 = true := by kernel_rfl
theorem cl131 : callable Tryz.prog 131 = true := by kernel_rfl
theorem cl132 : callable Tryz.prog 132 = true := by kernel_rfl
theorem cl134 : callable Tryz.prog 134 = true := by kernel_rfl
theorem cl138 : callable Tryz.prog 138 = true := by kernel_rfl
theorem cl139 : callable Tryz.prog 139 = true := by kernel_rfl
theorem cl140 : callable Tryz.prog 140 = true := by kernel_rfl
theorem cl146 : callable Tryz.prog 146 = true := by kernel_rfl
theorem cl147 : callable Tryz.prog 147 = true := by kernel_rfl
theorem cl148 : callable Tryz.prog 148 = true := by kernel_rfl
theorem cl149 : callable Tryz.prog 149 = true := by kernel_rfl
theorem mixed : Tryz.prog.follows .mixedOrders = true := by kernel_rfl
theorem U3 : type_of% Tryz.underlying3 := Tryz.underlying3
theorem U5 : type_of% Tryz.underlying5 := Tryz.underlying5
theorem U9 : type_of% Tryz.underlying9 := Tryz.underlying9
theorem U25 : type_of% Tryz.underlying25 := Tryz.underlying25
theorem U26 : type_of% Tryz.underlying26 := Tryz.underlying26
theorem U27 : type_of% Tryz.underlying27 := Tryz.underlying27
theorem U29 : type_of% Tryz.underlying29 := Tryz.underlying29
theorem U30 : type_of% Tryz.underlying30 := Tryz.underlying30
theorem U32 : type_of% Tryz.underlying32 := Tryz.underlying32
theorem U33 : type_of% Tryz.underlying33 := Tryz.underlying33
theorem U43 : type_of% Tryz.underlying43 := Tryz.underlying43
theorem U44 : type_of% Tryz.underlying44 := Tryz.underlying44
theorem U46 : type_of% Tryz.underlying46 := Tryz.underlying46
theorem U54 : type_of% Tryz.underlying54 := Tryz.underlying54
theorem U56 : type_of% Tryz.underlying56 := Tryz.underlying56
theorem U58 : type_of% Tryz.underlying58 := Tryz.underlying58
theorem U61 : type_of% Tryz.underlying61 := Tryz.underlying61
theorem U68 : type_of% Tryz.underlying68 := Tryz.underlying68
theorem U94 : type_of% Tryz.underlying94 := Tryz.underlying94
theorem U96 : type_of% Tryz.underlying96 := Tryz.underlying96
theorem U110 : type_of% Tryz.underlying110 := Tryz.underlying110
theorem U112 : type_of% Tryz.underlying112 := Tryz.underlying112
theorem U124 : type_of% Tryz.underlying124 := Tryz.underlying124
end Go.Proofs.YtaaamoicidfgcaaGreat.Am
namespace Go.Proofs.YtaaamoicidfgcaaGreat.Am
open Go Go.RowKit
set_option linter.unusedVariables false
theorem MR.below {g : Gh} {H : Mem} {w w' : World} (hm : MR g H w) (hb : Below w.heap.size w w') : MR g H w' ∧ Ev H.length g w g w' :=
  ⟨⟨fun b o v hv => (cell_of (w := w) (w' := w') (a := ⟨b, o, none⟩) (hb.block b (hm.ro_lt hv))).trans (hm.ro b o v hv),
    fun id e he => (hm.ent id e he).keep (lt_of_get he) (.refl _ _) (Nat.le_refl _) fun b ho => ⟨ho, fun _ => rfl, hb.block b (hm.ow b id ho).1⟩,
    fun b id ho => ⟨Nat.lt_of_lt_of_le (hm.ow b id ho).1 hb.size, (hm.ow b id ho).2⟩⟩,
   ⟨.refl _ _, fun b hbl ho => ⟨ho, hb.block b hbl⟩, hb.size, hb.os, hb.tape, hb.output⟩⟩
theorem acalls_of_below {P : Program} {f : FuncId} {args : List AV} {H : Mem} {x : Value} (hcl : callable P f = true)
    (h : ∀ (g : Gh) (w : World) (vals : Array Value), MR g H w → vals.size = args.length → (∀ (i : Nat) c, args[i]? = some c → VR g H.length c (vals.getD i undef)) →
      Calls P f vals w fun e w' => e = .returned x ∧ Below w.heap.size w w') : ACalls P f args H fun r H' => r = .sc x ∧ H' = H :=
  ⟨hcl, fun g w vals hm hs hv => (h g w vals hm hs hv).mono fun e w' ⟨he, hb⟩ =>
    have q := hm.below hb
    ⟨x, he, .sc x, H, g, ⟨rfl, rfl⟩, .sc x, q.1, q.2, Nat.le_refl _⟩⟩
def Ints (n₀ : Nat) (W : World) (sv : Value) (zs : List Int) : Prop :=
  (zs = [] ∧ ∃ a cap, sv = .slice a 0 cap) ∨ ∃ b off cap, sv = .slice (some ⟨b, off, none⟩) zs.length cap ∧ b < n₀ ∧ ∀ j, j < zs.length → W.cell? ⟨b, off + j, none⟩ = some (.int .i64 (zs[j]?.getD 0))
theorem Ints.below {n₀ : Nat} {A B : World} (h : Below n₀ A B) {sv : Value} {zs : List Int} : Ints n₀ A sv zs → Ints n₀ B sv zs
  | .inl e => .inl e
  | .inr ⟨b, off, cap, e, hb, hc⟩ => .inr ⟨b, off, cap, e, hb, fun j hj => (h.cell (p := ⟨b, off + j, none⟩) hb).trans (hc j hj)⟩
theorem Ints.le {n₀ n₁ : Nat} {A : World} {sv : Value} {zs : List Int} (hn : n₀ ≤ n₁) : Ints n₀ A sv zs → Ints n₁ A sv zs
  | .inl e => .inl e
  | .inr ⟨b, off, cap, e, hb, hc⟩ => .inr ⟨b, off, cap, e, Nat.lt_of_lt_of_le hb hn, hc⟩
theorem Ints.slice {n₀ : Nat} {A : World} {sv : Value} {zs : List Int} (h : Ints n₀ A sv zs) : ∃ a cap, sv = .slice a zs.length cap := by
  rcases h with ⟨rfl, a, cap, e⟩ | ⟨b, off, cap, e, _⟩
  · exact ⟨a, cap, e⟩
  · exact ⟨_, cap, e⟩
theorem flat_i64 (zs : List Int) : (zs.map c_i64).flatten = zs.map fun x => PV.sc (.int .i64 x) := by
  induction zs with
  | nil => rfl
  | cons x l ih => rw [List.map_cons, List.flatten_cons, ih]; rfl
theorem PR_i64 {ro : Nat → Nat → Option Value} {u v : Value} (h : PR ro (.sc u) v) : v = u := by cases h; rfl
theorem Ints.of_VR {g : Gh} {H : Mem} {w : World} {zs : List Int} {k : Tk} {v : Value} (hm : MR g H w) (h : VR g H.length (.sl 1 (zs.map c_i64) k) v) : Ints w.heap.size w v zs := by
  generalize he : zs.map c_i64 = es at h
  cases h with
  | nil z k hk => exact .inl ⟨by simpa using he, none, 0, rfl⟩
  | sl z es k a cap f hsp hcap hz hrow hk =>
    have hl : es.length = zs.length := by rw [← he]; simp
    by_cases h0 : zs = []
    · subst h0; exact .inl ⟨rfl, some a, cap, by rw [hl]; rfl⟩
    · have hp : 0 < zs.length := List.length_pos_iff.2 h0
      have hs : a.spot = none := hsp.resolve_left (by omega)
      obtain ⟨b, o, s⟩ := a
      simp only at hs
      subst hs
      have hcell : ∀ j, j < zs.length → g.ro b (o + j) = some (.int .i64 (zs[j]?.getD 0)) := fun j hj => by
        have q := hrow j (.sc (.int .i64 (zs[j]?.getD 0))) (by rw [← he, flat_i64]; simp [hj])
        rw [PR_i64 q.2] at q
        exact q.1
      exact .inr ⟨b, o, cap, by rw [hl], hm.ro_lt (hcell 0 hp), fun j hj => hm.ro _ _ _ (hcell j hj)⟩
end Go.Proofs.YtaaamoicidfgcaaGreat.Am
namespace Go.Proofs.YtaaamoicidfgcaaGreat.Am
open Go
set_option linter.unusedVariables false
def upto {α : Type} (f : Nat → α) (k : Nat) : List α := (List.range k).map f
def bk (len : Nat) (zs : List Int) (j : Nat) : Int × Int := (((len : Int) - 1 - j), zs[len - 1 - j]?.getD 0)
def cmtAt (commit i : Int) : Int := IntKind.wrap .i64 (IntKind.wrap .i64 (commit + 1) + i)
def cmtT (term commit top : Int) (p : Int × Int) : Bool := decide (p.2 = term) && decide (cmtAt commit p.1 ≤ top)
def cmtC (term commit : Int) (mt : List Int) (p : Int × Int) : Bool := decide (p.2 = term) && decide (mt.length < 2 * (mt.filter fun x => decide (cmtAt commit p.1 ≤ x)).length)
def cmtF (commit : Int) (ts : List Int) (c : Int × Int → Bool) : Int :=
 match (upto (bk ts.length ts) ts.length).find? c with
 | some p => cmtAt commit p.1
 | none => commit
def elect_Commit (term commit : Int) (mt ts : List Int) : Option Int :=
 if mt.length ≤ 12 ∧ ts.length ≤ 1000000 then some (if mt = [] then commit else cmtF commit ts (cmtC term commit mt)) else none
end Go.Proofs.YtaaamoicidfgcaaGreat.Am
namespace Go.Proofs.YtaaamoicidfgcaaGreat.Am
open Go Go.RowKit Go.Sort
set_option linter.unusedVariables false
theorem cells_i64 (l : List Int) (j : Nat) : ((l.map c_i64).flatten.map PV.av)[j]? = (l[j]?).map fun x => AV.sc (.int .i64 x) := by
 rw [flat_i64]; simp [List.getElem?_map, PV.av, Function.comp_def]
theorem len_i64 (l : List Int) : ((l.map c_i64).flatten.map PV.av).length = l.length := by rw [flat_i64]; simp
theorem MR.holds {g : Gh} {H : Mem} {w : World} {id : Nat} {zs : List Int} (hm : MR g H w) (hid : H[id]? = some (.cells ((zs.map c_i64).flatten.map PV.av))) (hne : zs ≠ []) :
  Holds (Value.int .i64) w (g.mu id).b (g.mu id).o zs.toArray ∧ (g.mu id).b < w.heap.size := by
 have hne0 : ((zs.map c_i64).flatten.map PV.av) ≠ [] := fun h => hne (List.eq_nil_of_length_eq_zero (by rw [← len_i64, h]; rfl))
 obtain ⟨h1, h2, h3, h4, h5⟩ := (hm.ent id _ hid).resolve_left fun h => hne0 h.1
 obtain ⟨c, e, fr, k1, k2, k3⟩ := h2
 rw [len_i64] at h3
 refine ⟨fun j hj => ?_, (hm.ow _ _ h1).1⟩
 have hj : j < zs.length := by simpa using hj
 obtain ⟨v, hv, hr⟩ := h5 j (.sc (.int .i64 zs[j])) (by rw [cells_i64, List.getElem?_eq_getElem hj]; rfl)
 cases hr
 refine ⟨?_, ?_⟩
 ·rw [hv]; simp [hj]
 ·unfold World.frozen?
  simp only [k1]
  have := k3 ((g.mu id).o + j) (by omega)
  simpa using this
theorem MR.sorted {g : Gh} {H : Mem} {w : World} {id : Nat} {zs m : List Int} {n : Nat} {os : Array Obj} (hm : MR g H w) (hid : H[id]? = some (.cells ((zs.map c_i64).flatten.map PV.av))) (hne : zs ≠ []) (hl : m.length = zs.length) :
  MR g (H.set id (.cells ((m.map c_i64).flatten.map PV.av))) (grow (putRow (Value.int .i64) (Sort.ahead w n) (g.mu id).b (g.mu id).o m.toArray) os) ∧ Ev H.length g w g (grow (putRow (Value.int .i64) (Sort.ahead w n) (g.mu id).b (g.mu id).o m.toArray) os) := by
 have hne0 : ((zs.map c_i64).flatten.map PV.av) ≠ [] := fun h => hne (List.eq_nil_of_length_eq_zero (by rw [← len_i64, h]; rfl))
 obtain ⟨h1, ⟨c, e, fr, k1, k2, k3⟩, h3, h4, h5⟩ := (hm.ent id _ hid).resolve_left fun h => hne0 h.1
 rw [len_i64] at h3
 have hlt := (hm.ow _ _ h1).1
 obtain ⟨w1, hw1⟩ : ∃ w1, putRow (Value.int .i64) (Sort.ahead w n) (g.mu id).b (g.mu id).o m.toArray = w1 := ⟨_, rfl⟩
 have hu : Upd w w1 (g.mu id).b (.cells (putCells (Value.int .i64) (g.mu id).o m.toArray c) e fr) := by
  rw [← hw1]
  refine ⟨?_, rfl, rfl, rfl⟩
  show w.heap.modify (g.mu id).b (onCells (putCells (Value.int .i64) (g.mu id).o m.toArray)) = _
  apply Array.ext_getElem?
  intro k
  rw [Array.getElem?_modify, Array.getElem?_setIfInBounds]
  by_cases hk : (g.mu id).b = k
  ·subst hk
   rw [if_pos rfl, if_pos rfl, if_pos hlt, k1]; rfl
  ·rw [if_neg hk, if_neg hk]
 obtain ⟨q1, q2⟩ := hm.put (cs' := (m.map c_i64).flatten.map PV.av) hid hne0 k1 hu (by simp [putCells]) (by rw [len_i64, len_i64, hl]) fun k a ha => by
  rw [cells_i64] at ha
  cases hx : m[k]? with
  | none => rw [hx] at ha; cases ha
  | some x =>
   rw [hx] at ha; cases ha
   have hk : k < m.length := (List.getElem?_eq_some_iff.1 hx).1
   refine ⟨.int .i64 x, ?_, .sc _⟩
   have hkc : (g.mu id).o + k < c.size := by omega
   have hx2 : m[k] = x := (List.getElem?_eq_some_iff.1 hx).2
   simp [putCells, Array.getElem?_mapIdx, hkc, hk, hx2]
 rw [hw1]
 have hb : Below w1.heap.size w1 (grow w1 os) := ⟨rfl, rfl, rfl, by simp [grow], fun k hk => by simp [grow, Array.getElem?_append, hk]⟩
 obtain ⟨p1, p2⟩ := q1.below hb
 exact ⟨p1, q2.trans (by simpa using p2) (Nat.le_refl _)⟩
end Go.Proofs.YtaaamoicidfgcaaGreat.Am
namespace Go.Proofs.YtaaamoicidfgcaaGreat.Am
open Go
def isIns (a : Int) : List Int → List Int
 | [] => [a]
 | b :: l => if a ≤ b then a :: b :: l else b :: isIns a l
def isort : List Int → List Int
 | [] => []
 | a :: l => isIns a (isort l)
def slices_Sort_Lint_int (x : List Int) : Option (List Int) := if x.length < 4611686018427387904 then some (isort x) else none
theorem isIns_perm (a : Int) : ∀ l : List Int, (isIns a l).Perm (a :: l)
 | [] => .refl _
 | b :: l => by
  unfold isIns
  split
  ·exact .refl _
  ·exact ((isIns_perm a l).cons b).trans (.swap a b l)
theorem isort_perm : ∀ l : List Int, (isort l).Perm l
 | [] => .refl _
 | a :: l => (isIns_perm a (isort l)).trans ((isort_perm l).cons a)
theorem isIns_sorted {a : Int} : ∀ {l : List Int}, l.Pairwise (· ≤ ·) → (isIns a l).Pairwise (· ≤ ·)
 | [], _ => List.pairwise_singleton _ _
 | b :: l, h => by
  unfold isIns
  rw [List.pairwise_cons] at h
  split
  ·rename_i hab
   rw [List.pairwise_cons, List.pairwise_cons]
   exact ⟨fun x hx => by rcases List.mem_cons.1 hx with rfl | hx; exact hab; have := h.1 x hx; omega, h⟩
  ·rename_i hab
   rw [List.pairwise_cons]
   refine ⟨fun x hx => ?_, isIns_sorted h.2⟩
   rcases List.mem_cons.1 ((isIns_perm a l).mem_iff.1 hx) with rfl | hx
   ·omega
   ·exact h.1 x hx
theorem isort_sorted : ∀ l : List Int, (isort l).Pairwise (· ≤ ·)
 | [] => .nil
 | _ :: l => isIns_sorted (isort_sorted l)
theorem isort_length (l : List Int) : (isort l).length = l.length := (isort_perm l).length_eq
theorem isort_merge (l : List Int) : (l.mergeSort fun a b => decide (a ≤ b)) = isort l := by
 have hp := List.pairwise_mergeSort (le := fun a b : Int => decide (a ≤ b)) (fun a b c h1 h2 => by simp at *; omega) (fun a b => by simp; omega) l
 exact ((List.mergeSort_perm l _).trans (isort_perm l).symm).eq_of_pairwise (le := (· ≤ ·)) (fun a b _ _ h1 h2 => by omega) (hp.imp fun h => by simpa using h) (isort_sorted l)
end Go.Proofs.YtaaamoicidfgcaaGreat.Am
namespace Go.Proofs
open Go.Shelf
def Tryz.lays189_ren : Go.Shelf.Ren := ⟨fun | 189 => 143 | 125 => 152 | 257 => 151 | 128 => 162 | 129 => 163 | 294 => 153 | 295 => 154 | 296 => 155 | 297 => 156 | 298 => 157 | 299 => 158 | 216 => 159 | 300 => 160 | 301 => 161 | 328 => 164 | 329 => 165 | 330 => 166 | 331 => 167 | 332 => 168 | 215 => 169 | 343 => 170 | n => n, fun | 28 => 26 | 3 => 3 | 46 => 163 | 0 => 0 | 51 => 173 | 53 => 175 | 4 => 4 | 183 => 166 | 182 => 165 | 131 => 170 | 5 => 5 | 9 => 9 | 218 => 176 | 222 => 180 | 228 => 182 | 229 => 183 | n => n, fun n => n⟩
theorem Tryz.lays189 : Lays.n189 Tryz.prog Tryz.lays189_ren where
 mixed := by kernel_rfl
 f125 := Tryz.func152.trans (congrArg some (by kernel_rfl))
 f128 := Tryz.func162.trans (congrArg some (by kernel_rfl))
 f129 := Tryz.func163.trans (congrArg some (by kernel_rfl))
 f189 := Tryz.func143.trans (congrArg some (by kernel_rfl))
 f215 := Tryz.func169.trans (congrArg some (by kernel_rfl))
 f216 := Tryz.func159.trans (congrArg some (by kernel_rfl))
 f257 := Tryz.func151.trans (congrArg some (by kernel_rfl))
 f294 := Tryz.func153.trans (congrArg some (by kernel_rfl))
 f295 := Tryz.func154.trans (congrArg some (by kernel_rfl))
 f296 := Tryz.func155.trans (congrArg some (by kernel_rfl))
 f297 := Tryz.func156.trans (congrArg some (by kernel_rfl))
 f298 := Tryz.func157.trans (congrArg some (by kernel_rfl))
 f299 := Tryz.func158.trans (congrArg some (by kernel_rfl))
 f300 := Tryz.func160.trans (congrArg some (by kernel_rfl))
 f301 := Tryz.func161.trans (congrArg some (by kernel_rfl))
 f328 := Tryz.func164.trans (congrArg some (by kernel_rfl))
 f329 := Tryz.func165.trans (congrArg some (by kernel_rfl))
 f330 := Tryz.func166.trans (congrArg some (by kernel_rfl))
 f331 := Tryz.func167.trans (congrArg some (by kernel_rfl))
 f332 := Tryz.func168.trans (congrArg some (by kernel_rfl))
 f343 := Tryz.func170.trans (congrArg some (by kernel_rfl))
 t0 := Tryz.underlying0
 a0 := Tryz.isAgg0
 z0 := Tryz.sizeOf0
 v0 := Tryz.zeroValue0
 t3 := Tryz.underlying3
 a3 := Tryz.isAgg3
 z3 := Tryz.sizeOf3
 v3 := Tryz.zeroValue3
 t4 := Tryz.underlying4
 a4 := Tryz.isAgg4
 z4 := Tryz.sizeOf4
 v4 := Tryz.zeroValue4
 t5 := Tryz.underlying5
 a5 := Tryz.isAgg5
 z5 := Tryz.sizeOf5
 v5 := Tryz.zeroValue5
 t9 := Tryz.underlying9
 a9 := Tryz.isAgg9
 z9 := Tryz.sizeOf9
 v9 := Tryz.zeroValue9
 t28 := Tryz.underlying26
 a28 := Tryz.isAgg26
 z28 := Tryz.sizeOf26
 v28 := Tryz.zeroValue26
 t46 := Tryz.underlying163
 a46 := Tryz.isAgg163
 z46 := Tryz.sizeOf163
 v46 := Tryz.zeroValue163
 t51 := Tryz.underlying173
 a51 := Tryz.isAgg173
 z51 := Tryz.sizeOf173
 v51 := Tryz.zeroValue173
 t53 := Tryz.underlying175
 a53 := Tryz.isAgg175
 z53 := Tryz.sizeOf175
 v53 := Tryz.zeroValue175
 t131 := Tryz.underlying170
 a131 := Tryz.isAgg170
 z131 := Tryz.sizeOf170
 v131 := Tryz.zeroValue170
 t182 := Tryz.underlying165
 a182 := Tryz.isAgg165
 z182 := Tryz.sizeOf165
 v182 := Tryz.zeroValue165
 t183 := Tryz.underlying166
 a183 := Tryz.isAgg166
 z183 := Tryz.sizeOf166
 v183 := Tryz.zeroValue166
 t218 := Tryz.underlying176
 a218 := Tryz.isAgg176
 z218 := Tryz.sizeOf176
 v218 := Tryz.zeroValue176
 t222 := Tryz.underlying180
 a222 := Tryz.isAgg180
 z222 := Tryz.sizeOf180
 v222 := Tryz.zeroValue180
 t228 := Tryz.underlying182
 a228 := Tryz.isAgg182
 z228 := Tryz.sizeOf182
 v228 := Tryz.zeroValue182
 t229 := Tryz.underlying183
 a229 := Tryz.isAgg183
 z229 := Tryz.sizeOf183
 v229 := Tryz.zeroValue183
end Go.Proofs
namespace Go.Proofs.YtaaamoicidfgcaaGreat.Am
open Go Go.RowKit Go.Sort Go.Shelf
set_option linter.unusedVariables false
theorem w_slices_Sort_Lint_int (px : Nat) (x : List Int) (H : Mem) {r : List Int} (h : slices_Sort_Lint_int x = some r) (fpx0 : H[px]? = some (.cells ((x.map c_i64).flatten.map PV.av))) :
  ACalls Tryz.prog 143 [.hs px 0 x.length x.length 1] H (fun r' H' => r' = .tp [] ∧ H' = H.set px (.cells ((r.map c_i64).flatten.map PV.av))) := by
 unfold slices_Sort_Lint_int at h
 rw [← isort_merge] at h
 by_cases hl : x.length < 4611686018427387904
 case neg => rw [if_neg hl] at h; cases h
 rw [if_pos hl] at h
 cases h
 refine ⟨by kernel_rfl, fun g w vals hm hs hv => ?_⟩
 have hv0 := hv 0 _ rfl
 obtain ⟨v, rfl⟩ : ∃ v, vals = #[v] := by
  obtain ⟨l⟩ := vals
  match l, hs with
  | [v], _ => exact ⟨v, rfl⟩
 have hv0 : VR g H.length (.hs px 0 x.length x.length 1) v := hv0
 have ht : ∀ n, VR g n (.tp []) (.tuple #[]) := fun n => .tp [] #[] rfl (fun i c hc => by simp at hc)
 generalize hn : x.length = n at hv0
 by_cases hx : x = []
 ·subst hx
  have hn0 : n = 0 := by simpa using hn.symm
  subst hn0
  have hvs : ∃ p cap, v = .slice p 0 cap := by
   cases hv0 with
   | hs id off len mc s cap _ _ _ _ => exact ⟨_, cap, rfl⟩
   | hn id off s a _ => exact ⟨a, 0, rfl⟩
  obtain ⟨p, cap, rfl⟩ := hvs
  refine (Any.slices_Sort_int_none Tryz.lays189 p cap w).mono fun e w' ⟨he, hw⟩ => ?_
  subst hw
  have hm2 : H.set px (.cells (((List.mergeSort ([] : List Int) fun a b => decide (a ≤ b)).map c_i64).flatten.map PV.av)) = H := mem_same (by simpa using fpx0)
  refine ⟨_, he, .tp [], H, g, ⟨rfl, hm2.symm⟩, ht _, hm, ⟨.refl _ _, fun b _ h => ⟨h, rfl⟩, Nat.le_refl _, rfl, rfl, rfl⟩, Nat.le_refl _⟩
 ·have hvs : ∃ cap, v = .slice (some ⟨(g.mu px).b, (g.mu px).o, none⟩) n cap := by
   cases hv0 with
   | hs id off len mc s cap _ _ _ _ => exact ⟨cap, rfl⟩
   | hn id off s a _ => exact absurd (List.eq_nil_of_length_eq_zero hn) hx
  obtain ⟨cap, rfl⟩ := hvs
  obtain ⟨hH, hb⟩ := hm.holds fpx0 hx
  subst hn
  refine (Any.slices_Sort_int Tryz.lays189 (g.mu px).b (g.mu px).o cap x w hH hb hl).mono fun e w' ⟨he, n, os, hw⟩ => ?_
  subst hw
  obtain ⟨q1, q2⟩ := hm.sorted (n := n) (os := os) fpx0 hx (m := x.mergeSort fun a b => decide (a ≤ b)) (by simp)
  exact ⟨_, he, .tp [], _, g, ⟨rfl, rfl⟩, ht _, q1, q2, by simp⟩
end Go.Proofs.YtaaamoicidfgcaaGreat.Am
namespace Go.Proofs.YtaaamoicidfgcaaGreat.Am
open Go Go.RowKit Go.Shelf
set_option linter.unusedVariables false
set_option linter.unusedSimpArgs false
attribute [local go_sem] Oper.semAt_some
theorem sort_in {xs m : List Int} (hs : slices_Sort_Lint_int xs = some m) (hlen : m.length = xs.length) {b cap : Nat} {cur : Array Value} {e : TypeId} {w : World} (hw : w.heap[b]? = some (.cells cur e (0, 0)))
  (hcap : xs.length ≤ cap) (hsz : cap ≤ cur.size) (hc : ∀ j, j < xs.length → cur[j]? = some (.int .i64 (xs[j]?.getD 0))) :
  Calls Tryz.prog 143 #[.slice (some ⟨b, 0, none⟩) xs.length cap] w fun e w' => (∃ u, e = .returned u) ∧ Below b w w' ∧ ∀ j, j < xs.length → w'.cell? ⟨b, j, none⟩ = some (.int .i64 (m[j]?.getD 0)) := by
 obtain ⟨g, hg⟩ : ∃ g : Gh, g = { ro := fun _ _ => none, ow := fun b' => if b' = b then some 0 else none, mu := fun _ => ⟨b, 0, cap⟩ } := ⟨_, rfl⟩
 have hblt : b < w.heap.size := (Array.getElem?_eq_some_iff.1 hw).1
 have hcl : ∀ (l : List Int) (j : Nat), ((l.map c_i64).flatten.map PV.av)[j]? = (l[j]?).map fun x => AV.sc (.int .i64 x) := fun l j => by
  rw [flat_i64]; simp [List.getElem?_map, PV.av, Function.comp_def]
 have hm : MR g [.cells ((xs.map c_i64).flatten.map PV.av)] w := by
  refine ⟨fun b' o v h => (by rw [hg] at h; cases h), fun id x hx => ?_, fun b' id h => ?_⟩
  ·obtain ⟨rfl, rfl⟩ : id = 0 ∧ x = .cells ((xs.map c_i64).flatten.map PV.av) := by
    cases id with
    | zero => exact ⟨rfl, by simpa using hx.symm⟩
    | succ n => simp at hx
   rw [hg]
   refine .inr ⟨if_pos rfl, ⟨cur, e, (0, 0), hw, hsz, fun o _ => by simp⟩, ?_, fun _ => rfl, fun k c hk => ?_⟩
   ·simp only [Nat.zero_add, List.length_map, flat_i64]; exact hcap
   ·rw [hcl] at hk
    cases hx : xs[k]? with
    | none => rw [hx] at hk; cases hk
    | some x =>
     rw [hx] at hk
     cases hk
     have hk' : k < xs.length := lt_of_get hx
     refine ⟨_, ?_, .sc _⟩
     have := hc k hk'
     rw [hx] at this
     simp [World.cell?, hw, this]
  ·rw [hg] at h
   simp only at h
   split at h
   ·rename_i e'; cases h; exact ⟨by rw [e']; exact hblt, by simp⟩
   ·cases h
 have hv : VR g 1 (.hs 0 0 xs.length xs.length 1) (.slice (some ⟨b, 0, none⟩) xs.length cap) := by
  have := VR.hs (g := g) (n := 1) 0 0 xs.length xs.length 1 cap (by omega) (Nat.le_refl _) hcap (by rw [hg]; simp)
  rw [hg] at this ⊢
  exact this
 refine ((w_slices_Sort_Lint_int 0 xs [.cells ((xs.map c_i64).flatten.map PV.av)] hs rfl).2 g w #[.slice (some ⟨b, 0, none⟩) xs.length cap] hm rfl (fun i c h => ?_)).mono ?_
 ·cases i with
  | zero => cases h; exact hv
  | succ n => simp at h
 ·rintro e' w' ⟨v, rfl, r, H', g', ⟨rfl, rfl⟩, hvr, hm', hev, _⟩
  refine ⟨⟨v, rfl⟩, ⟨hev.os, hev.tape, hev.output, hev.size, fun k hk => (hev.un k (by omega) (by rw [hg]; exact if_neg (by omega))).2⟩, fun j hj => ?_⟩
  obtain ⟨v, h1, h2⟩ := hm'.cellAt (id := 0) rfl j (.sc (.int .i64 (m[j]?.getD 0))) (by rw [hcl]; rw [List.getElem?_eq_getElem (by omega : j < m.length)]; rfl)
  rw [hev.gle.mu 0 (by simp), hg] at h1
  rw [VR_sc h2] at h1
  simpa using h1
theorem upto_succ {α : Type} (f : Nat → α) (k : Nat) : upto f (k + 1) = upto f k ++ [f k] := by simp [upto, List.range_succ]
theorem upto_length {α : Type} (f : Nat → α) (k : Nat) : (upto f k).length = k := by simp [upto]
theorem upto_all (zs : List Int) : upto (fun j => zs[j]?.getD 0) zs.length = zs := by
 apply List.ext_getElem
 ·simp [upto]
 ·intro i h1 h2
  simp [upto, h2]
theorem upto_take (zs : List Int) {k : Nat} (hk : k ≤ zs.length) : upto (fun j => zs[j]?.getD 0) k = zs.take k := by
 apply List.ext_getElem
 ·simp [upto, hk]
 ·intro i h1 h2
  have : i < zs.length := by simp [upto] at h1; omega
  simp [upto, this]
set_option maxRecDepth 100000 in
set_option maxHeartbeats 2000000 in
theorem values1_in (F : Fence) (n : Nat) (h7 : F.fn 144) (hro : F.round = none) (hn : 1 ≤ n) (l Bs n₀ b off len cap : Nat) (zs : List Int) (hreach : len * 8 ≤ 140737488351232) (hb : b < n₀) (J Jx : List Int → World → Prop)
  (hY : ∀ pre x W, J pre W → pre.length < len → YieldAt F (n - 1) Tryz.prog l #[.int .i64 x] W fun e W' =>
   (e = .returned (.bool true) ∧ J (pre ++ [x]) W' ∧ Below n₀ W W') ∨ (e = .returned (.bool false) ∧ Jx (pre ++ [x]) W'))
  (W : World) (hBs : W.cell? ⟨Bs, 0, none⟩ = some (.slice (some ⟨b, off, none⟩) len cap)) (hc : ∀ j, j < len → W.cell? ⟨b, off + j, none⟩ = some (.int .i64 (zs[j]?.getD 0))) (h0 : J [] W) :
  CallsIn F n Tryz.prog 144 #[.func (.yield l) #[] #[], .pointer (some ⟨Bs, 0, none⟩)] W fun e W' => (∃ v, e = .returned v) ∧
   ((∃ ys, ys = upto (fun j => zs[j]?.getD 0) len ∧ J ys W') ∨ (∃ pre, (∃ k, k ≤ len ∧ pre = upto (fun j => zs[j]?.getD 0) k) ∧ Jx pre W')) := by
 refine callsIn_of_wp Tryz.func144 rfl h7 ?_ hro
 simp only [Tryz.ntmps144, List.size_toArray, List.length_cons, List.length_nil, Nat.reduceAdd, Nat.reduceSub, Array.replicate_succ, Array.replicate_zero, List.push_toArray, List.append_toArray, List.nil_append, List.cons_append]
 gi_wp2
 gi_loopw [7] (fun i wr => ∃ k : Nat, k ≤ len ∧ i = .int .i64 k ∧ J (upto (fun j => zs[j]?.getD 0) k) wr ∧ Below n₀ W wr)
  (fun i _ => len - (intOf i).toNat)
 case atStart => exact ⟨0, Nat.zero_le _, rfl, h0, Below.refl _ _⟩
 case round =>
  obtain ⟨k, hk, rfl, hJs, hnx⟩ := hrel
  have hcx : k < len → wr.cell? ⟨b, off + k, none⟩ = some (.int .i64 (zs[k]?.getD 0)) := fun h => (hnx.cell (p := ⟨b, off + k, none⟩) hb).trans (hc k h)
  by_cases hlt : k < len
  ·obtain ⟨fn, tmps, assign, body, hy, hR⟩ := hY _ (zs[k]?.getD 0) wr hJs (by rw [upto_length]; exact hlt)
   have hcx' := hcx hlt
   gi_wp2
   refine hR.mono ?_
   rintro e W3 (⟨rfl, hJ3, hk3⟩ | ⟨rfl, hJx3⟩)
   ·gi_wp2
    go_roundw
    case rel => exact ⟨k + 1, by omega, by simp, by rw [upto_succ]; exact hJ3, hnx.trans hk3⟩
    case measure => simp [intOf]; omega
   ·gi_wp2
    refine bodyPost_ret (results_none rfl _ _ _) rfl ?_
    exact ⟨⟨_, rfl⟩, .inr ⟨_, ⟨k + 1, by omega, (upto_succ _ _).symm⟩, hJx3⟩⟩
  ·obtain rfl : k = len := by omega
   gi_wp2
   go_end0
   exact ⟨⟨_, rfl⟩, .inl ⟨_, rfl, hJs⟩⟩
set_option maxRecDepth 100000 in
set_option maxHeartbeats 1000000 in
theorem values1_nil_in (F : Fence) (n : Nat) (h7 : F.fn 144) (hro : F.round = none) (l Bs : Nat) (J : List Int → World → Prop) (W : World) (a : Option Addr) (cap : Nat) (hBs : W.cell? ⟨Bs, 0, none⟩ = some (.slice a 0 cap)) (h0 : J [] W) :
  CallsIn F n Tryz.prog 144 #[.func (.yield l) #[] #[], .pointer (some ⟨Bs, 0, none⟩)] W fun e W' => (∃ v, e = .returned v) ∧ J [] W' := by
 refine callsIn_of_wp Tryz.func144 rfl h7 ?_ hro
 simp only [Tryz.ntmps144, List.size_toArray, List.length_cons, List.length_nil, Nat.reduceAdd, Nat.reduceSub, Array.replicate_succ, Array.replicate_zero, List.push_toArray, List.append_toArray, List.nil_append, List.cons_append]
 gi_wp2
 gi_loopw [7] (fun i wr => i = .int .i64 0 ∧ J [] wr) (fun _ _ => 0)
 case atStart => exact ⟨rfl, h0⟩
 case round =>
  obtain ⟨rfl, hJs⟩ := hrel
  gi_wp2
  go_end0
  exact ⟨⟨_, rfl⟩, hJs⟩
set_option maxHeartbeats 1000000 in
theorem values_in (F : Fence) (n : Nat) (h5 : F.fn 136) (hro : F.round = none) (a : Option Addr) (len cap : Nat) (w : World) :
  CallsIn F n Tryz.prog 136 #[.slice a len cap] w fun e w' => e = .returned (.func (.func 144) #[] #[.pointer (some ⟨w.heap.size, 0, none⟩)]) ∧ w' = w.alloc (.cells #[.slice a len cap] 26) := by
 refine callsIn_of_wp Tryz.func136 rfl h5 ?_ hro
 simp only [Tryz.ntmps136, List.size_toArray, List.length_cons, List.length_nil, Nat.reduceAdd, Nat.reduceSub, Array.replicate_succ, Array.replicate_zero, List.push_toArray, List.append_toArray, List.nil_append, List.cons_append]
 gi_wp2
 go_ret
 exact ⟨rfl, rfl⟩
theorem values_stops (F : Fence) (n : Nat) (h7 : F.fn 144) (hro : F.round = none) (hn : 1 ≤ n) (Bs n₀ : Nat) (sv : Value) (zs : List Int) (hreach : zs.length * 8 ≤ 140737488351232) (w : World) (hBs : Bs < w.heap.size) (hn₀ : n₀ ≤ w.heap.size)
  (hc : w.cell? ⟨Bs, 0, none⟩ = some sv) (hI : Ints n₀ w sv zs) :
  SeqStopsK F n Tryz.prog 144 #[.pointer (some ⟨Bs, 0, none⟩)] (fun x : Int => #[Value.int .i64 x]) (Below n₀) (fun ys => ys = zs) (fun pre => pre <+: zs) zs.length w := fun l J Jx W hW _ _ hY h0 => by
 have hc' := (hW.cell (p := ⟨Bs, 0, none⟩) hBs).trans hc
 rcases hI.below (hW.mono hn₀) with ⟨rfl, a, cap, rfl⟩ | ⟨b, off, cap, rfl, hb, hcs⟩
 ·exact (values1_nil_in F n h7 hro l Bs J W a cap hc' h0).mono fun e W' ⟨he, hj⟩ => ⟨he, .inl ⟨_, rfl, hj⟩⟩
 ·refine (values1_in F n h7 hro hn l Bs n₀ b off zs.length cap zs hreach hb J Jx hY W hc' hcs h0).mono ?_
  rintro e W' ⟨he, ⟨ys, rfl, hj⟩ | ⟨pre, ⟨k, hk, rfl⟩, hj⟩⟩
  ·exact ⟨he, .inl ⟨_, upto_all zs, hj⟩⟩
  ·exact ⟨he, .inr ⟨_, by rw [upto_take zs hk]; exact List.take_prefix _ _, hj⟩⟩
set_option maxRecDepth 100000 in
set_option maxHeartbeats 2000000 in
theorem back1_in (F : Fence) (n : Nat) (h8 : F.fn 145) (hro : F.round = none) (hn : 1 ≤ n) (l Bs n₀ b off len cap : Nat) (zs : List Int) (hreach : len * 8 ≤ 140737488351232) (hb : b < n₀) (hBn : Bs < n₀) (J Jx : List (Int × Int) → World → Prop)
  (hY : ∀ pre x W, J pre W → pre.length < len → YieldAt F (n - 1) Tryz.prog l #[.int .i64 x.1, .int .i64 x.2] W fun e W' =>
   (e = .returned (.bool true) ∧ J (pre ++ [x]) W' ∧ Below n₀ W W') ∨ (e = .returned (.bool false) ∧ Jx (pre ++ [x]) W'))
  (W : World) (hBs : W.cell? ⟨Bs, 0, none⟩ = some (.slice (some ⟨b, off, none⟩) len cap)) (hc : ∀ j, j < len → W.cell? ⟨b, off + j, none⟩ = some (.int .i64 (zs[j]?.getD 0))) (h0 : J [] W) :
  CallsIn F n Tryz.prog 145 #[.func (.yield l) #[] #[], .pointer (some ⟨Bs, 0, none⟩)] W fun e W' => (∃ v, e = .returned v) ∧
   ((∃ ys, ys = upto (bk len zs) len ∧ J ys W') ∨ (∃ pre, (∃ k, k ≤ len ∧ pre = upto (bk len zs) k) ∧ Jx pre W')) := by
 refine callsIn_of_wp Tryz.func145 rfl h8 ?_ hro
 simp only [Tryz.ntmps145, List.size_toArray, List.length_cons, List.length_nil, Nat.reduceAdd, Nat.reduceSub, Array.replicate_succ, Array.replicate_zero, List.push_toArray, List.append_toArray, List.nil_append, List.cons_append]
 gi_wp2
 gi_loopw [3] (fun i wr => ∃ k : Nat, k ≤ len ∧ i = .int .i64 ((len : Int) - 1 - k) ∧ J (upto (bk len zs) k) wr ∧ Below n₀ W wr)
  (fun i _ => (intOf i + 1).toNat)
 case atStart => exact ⟨0, Nat.zero_le _, by simp, h0, Below.refl _ _⟩
 case round =>
  obtain ⟨k, hk, rfl, hJs, hnx⟩ := hrel
  by_cases hlt : k < len
  ·obtain ⟨j, hj, hji⟩ : ∃ j : Nat, len - 1 - k = j ∧ (len : Int) - 1 - k = (j : Int) := ⟨_, rfl, by omega⟩
   have hcx' : wr.cell? ⟨b, off + j, none⟩ = some (.int .i64 (zs[j]?.getD 0)) := (hnx.cell (p := ⟨b, off + j, none⟩) hb).trans (hc j (by omega))
   have hBs' : wr.cell? ⟨Bs, 0, none⟩ = some (.slice (some ⟨b, off, none⟩) len cap) := (hnx.cell (p := ⟨Bs, 0, none⟩) hBn).trans hBs
   obtain ⟨fn, tmps, assign, body, hy, hR⟩ := hY _ (bk len zs k) wr hJs (by rw [upto_length]; exact hlt)
   have hjl : j < len := by omega
   have hbk : bk len zs k = ((j : Int), zs[j]?.getD 0) := by simp only [bk, hji, hj]
   rw [hbk] at hy hR
   dsimp only at hy
   rw [hji]
   gi_wp2
   refine hR.mono ?_
   rintro e W3 (⟨rfl, hJ3, hk3⟩ | ⟨rfl, hJx3⟩)
   ·gi_wp2
    go_roundw
    case rel => exact ⟨k + 1, by omega, by congr 1 <;> omega, by rw [upto_succ, hbk]; exact hJ3, hnx.trans hk3⟩
    case measure => simp [intOf] <;> omega
   ·gi_wp2
    refine bodyPost_ret (results_none rfl _ _ _) rfl ?_
    exact ⟨⟨_, rfl⟩, .inr ⟨_, ⟨k + 1, by omega, by rw [upto_succ, hbk]⟩, hJx3⟩⟩
  ·have hk' : k = len := by omega
   have hji : (len : Int) - 1 - k = -1 := by omega
   subst hk'
   rw [hji]
   gi_wp2
   go_end0
   exact ⟨⟨_, rfl⟩, .inl ⟨_, rfl, hJs⟩⟩
set_option maxRecDepth 100000 in
set_option maxHeartbeats 1000000 in
theorem back1_nil_in (F : Fence) (n : Nat) (h8 : F.fn 145) (hro : F.round = none) (l Bs : Nat) (J : List (Int × Int) → World → Prop) (W : World) (a : Option Addr) (cap : Nat) (hBs : W.cell? ⟨Bs, 0, none⟩ = some (.slice a 0 cap)) (h0 : J [] W) :
  CallsIn F n Tryz.prog 145 #[.func (.yield l) #[] #[], .pointer (some ⟨Bs, 0, none⟩)] W fun e W' => (∃ v, e = .returned v) ∧ J [] W' := by
 refine callsIn_of_wp Tryz.func145 rfl h8 ?_ hro
 simp only [Tryz.ntmps145, List.size_toArray, List.length_cons, List.length_nil, Nat.reduceAdd, Nat.reduceSub, Array.replicate_succ, Array.replicate_zero, List.push_toArray, List.append_toArray, List.nil_append, List.cons_append]
 gi_wp2
 gi_loopw [3] (fun i wr => i = .int .i64 (-1) ∧ J [] wr) (fun _ _ => 0)
 case atStart => exact ⟨rfl, h0⟩
 case round =>
  obtain ⟨rfl, hJs⟩ := hrel
  gi_wp2
  go_end0
  exact ⟨⟨_, rfl⟩, hJs⟩
set_option maxHeartbeats 1000000 in
theorem back_in (F : Fence) (n : Nat) (h5 : F.fn 137) (hro : F.round = none) (a : Option Addr) (len cap : Nat) (w : World) :
  CallsIn F n Tryz.prog 137 #[.slice a len cap] w fun e w' => e = .returned (.func (.func 145) #[] #[.pointer (some ⟨w.heap.size, 0, none⟩)]) ∧ w' = w.alloc (.cells #[.slice a len cap] 26) := by
 refine callsIn_of_wp Tryz.func137 rfl h5 ?_ hro
 simp only [Tryz.ntmps137, List.size_toArray, List.length_cons, List.length_nil, Nat.reduceAdd, Nat.reduceSub, Array.replicate_succ, Array.replicate_zero, List.push_toArray, List.append_toArray, List.nil_append, List.cons_append]
 gi_wp2
 go_ret
 exact ⟨rfl, rfl⟩
theorem back_stops (F : Fence) (n : Nat) (h7 : F.fn 145) (hro : F.round = none) (hn : 1 ≤ n) (Bs n₀ : Nat) (sv : Value) (zs : List Int) (hreach : zs.length * 8 ≤ 140737488351232) (w : World) (hBs : Bs < w.heap.size) (hn₀ : n₀ ≤ w.heap.size) (hBn : Bs < n₀)
  (hc : w.cell? ⟨Bs, 0, none⟩ = some sv) (hI : Ints n₀ w sv zs) :
  SeqStopsK F n Tryz.prog 145 #[.pointer (some ⟨Bs, 0, none⟩)] (fun x : Int × Int => #[Value.int .i64 x.1, Value.int .i64 x.2]) (Below n₀) (fun ys => ys = upto (bk zs.length zs) zs.length)
   (fun pre => ∃ k, k ≤ zs.length ∧ pre = upto (bk zs.length zs) k) zs.length w := fun l J Jx W hW _ _ hY h0 => by
 have hc' := (hW.cell (p := ⟨Bs, 0, none⟩) hBs).trans hc
 rcases hI.below (hW.mono hn₀) with ⟨rfl, a, cap, rfl⟩ | ⟨b, off, cap, rfl, hb, hcs⟩
 ·exact (back1_nil_in F n h7 hro l Bs J W a cap hc' h0).mono fun e W' ⟨he, hj⟩ => ⟨he, .inl ⟨_, rfl, hj⟩⟩
 ·exact back1_in F n h7 hro hn l Bs n₀ b off zs.length cap zs hreach hb hBn J Jx hY W hc' hcs h0
theorem info_i64 : (Tryz.prog.info? 3).map (fun i => (i.zero, i.size, i.bytes)) = some (some (.int .i64 0), 1, 8) := by kernel_rfl
set_option maxRecDepth 100000 in
set_option maxHeartbeats 2000000 in
theorem appendSeq_in (F : Fence) (n : Nat) (h3 : F.fn 150) (hro : F.round = none) (hn : 3 ≤ n) (g : Nat) (lb : Array Value) (hFg : F.fn g) (eg : ∀ args w, (callFunc g args).run Tryz.prog w = .ok (.enter g args) w)
  (xs : List Int) (hlen : xs.length ≤ maxLen) (hbytes : xs.length * 8 ≤ 140737488355328) (w : World)
  (hseq : SeqStopsK F (n - 1) Tryz.prog g lb (fun x : Int => #[Value.int .i64 x]) (Below w.heap.size) (fun ys => ys = xs) (fun pre => pre <+: xs) xs.length w) :
  CallsIn F n Tryz.prog 150 #[.slice none 0 0, .func (.func g) #[] lb] w fun e W' => ∃ v, e = .returned v ∧ W'.ownsRow w.heap.size 3 1 v xs.length (xs.map (Value.int .i64)) ∧ Below w.heap.size w W' := by
 have h1 : 1 ≤ n := by omega
 obtain ⟨i0, hi, hz0, hz1, hz2⟩ := info_parts info_i64
 refine callsIn_of_wp_marks Tryz.func150 rfl h3 ?_ hro
 simp only [Tryz.ntmps150, List.size_toArray, List.length_cons, List.length_nil, Nat.reduceAdd, Nat.reduceSub, Array.replicate_succ, Array.replicate_zero, List.push_toArray, List.append_toArray, List.nil_append, List.cons_append]
 gi_wp2
 have bO := Boxed.new w 26 (.slice none 0 0)
 have hB0 : Below w.heap.size w (w.alloc (.cells #[.slice none 0 0] 26)) := (Below.refl _ w).alloc (Nat.le_refl _) _
 refine wpIn_rangeFunc_ownG hro h1 (gf := g) (lb := lb) rfl hFg eg hseq belowK_t (belowK_b (by simp)) hB0 (fun _ => rfl)
  (fun pre W => (∃ v, Boxed W w.heap.size 26 v ∧ W.ownsRow w.heap.size 3 1 v pre.length (pre.map (Value.int .i64)) ∧ True) ∧ Below w.heap.size w W)
  (fun _ _ _ => False)
  (OwnFrom.and (Own.from (holdsRow_own w.heap.size w.heap.size 26 3 1 (fun pre : List Int => pre.length) (fun pre => pre.map (Value.int .i64)) (fun pre v => True)) _) (ownFrom_below (Nat.le_refl _) (by simp)))
  (fun _ _ _ _ _ hs _ _ => hs)
  ⟨⟨_, bO, World.ownsRow_nil _ _ _ _, trivial⟩, hB0⟩
  (fun x => { tmps := #[.slice none 0 0, .func (.func g) #[] lb, .pointer (some ⟨w.heap.size, 0, none⟩), undef, .slice none 0 0, .int .i64 x, .func (.func g) #[] lb, .int .i64 x, undef, undef, undef, undef, undef], defers := [] }) ?assign ?body ?done ?stop
 case assign =>
  intro l x W K hK
  gi_wp2
  exact hK
 case body =>
  rintro l pre x W ⟨⟨v, hv, hrow, _⟩, hB⟩ hlt
  have hc := hv.cell
  gi_wp2_with (gi_at_builtin; refine wpListIn_append_own _ rfl _ _ 26 rfl w.heap.size 3 i0 (.int .i64 0) 1 8 Tryz.underlying26 hi hz0 hz1 hz2 rfl (by decide) _ _ _ rfl (hrow.alloc _) ⟨W.heap.size, 0, none⟩ 1 1 [.int .i64 x] rfl rfl (cell_one_new _ _ _) (by simp [Value.oneCell']) (by omega) (by omega) (by have := hB.size; simp; omega) ?_; intro v' w1 hown' hgrow _; obtain ⟨g', cap', rfl⟩ := ownsRow_succ hown'; obtain ⟨hv1, hv2, hr2, hk2, hb2⟩ := hv.appended (by decide) hrow hB.size (Nat.le_refl _) hown' hgrow; have hc1 := hv1.cell; have hf1 := hv1.frozen)
  exact ⟨hk2.from _, hb2, ⟨_, hv2, by simpa using hr2, trivial⟩, hB.trans hb2⟩
 case done =>
  rintro D ys W hD rfl ⟨⟨v, hv, hrow, _⟩, hB⟩ hK
  have hc := hv.cell
  gi_wp2
  refine ⟨by simp, .inl ⟨_, _, rfl, run_takeDeferred hK, ?_⟩⟩
  exact ⟨_, results_tmp rfl _ _ _, v, rfl, ownsRow_putObj hrow _ hK rfl, hB.trans (belowK_b (w := w) (Nat.le_refl _) W D _ _ (by simp at hD; omega) hK rfl rfl)⟩
 case stop =>
  rintro D c pre W _ _ h _
  exact h.elim
set_option maxHeartbeats 1000000 in
theorem collect_in (F : Fence) (n : Nat) (h3 : F.fn 150) (h4 : F.fn 142) (hro : F.round = none) (hn : 4 ≤ n) (g : Nat) (lb : Array Value) (hFg : F.fn g) (eg : ∀ args w, (callFunc g args).run Tryz.prog w = .ok (.enter g args) w)
  (xs : List Int) (hlen : xs.length ≤ maxLen) (hbytes : xs.length * 8 ≤ 140737488355328) (w : World)
  (hseq : SeqStopsK F (n - 1 - 1) Tryz.prog g lb (fun x : Int => #[Value.int .i64 x]) (Below w.heap.size) (fun ys => ys = xs) (fun pre => pre <+: xs) xs.length w) :
  CallsIn F n Tryz.prog 142 #[.func (.func g) #[] lb] w fun e W' => ∃ v, e = .returned v ∧ W'.ownsRow w.heap.size 3 1 v xs.length (xs.map (Value.int .i64)) ∧ Below w.heap.size w W' := by
 have h1 : 1 ≤ n := by omega
 refine callsIn_of_wp Tryz.func142 rfl h4 ?_ hro
 simp only [Tryz.ntmps142, List.size_toArray, List.length_cons, List.length_nil, Nat.reduceAdd, Nat.reduceSub, Array.replicate_succ, Array.replicate_zero, List.push_toArray, List.append_toArray, List.nil_append, List.cons_append]
 gi_wp2_with (gi_at_call 150; refine (appendSeq_in F (n - 1) h3 hro (by omega) g lb hFg eg xs hlen hbytes w hseq).mono ?_; rintro e w' ⟨v, rfl, hrow, hB⟩)
 go_ret
 exact ⟨v, rfl, hrow, hB⟩
theorem row_cells {cur : Array Value} {xs : List Int} (h : cur.toList.take (xs.length * 1) = xs.map (Value.int .i64)) (j : Nat) (hj : j < xs.length) : cur[j]? = some (.int .i64 (xs[j]?.getD 0)) := by
 have e : (cur.toList.take (xs.length * 1))[j]? = (xs.map (Value.int .i64))[j]? := by rw [h]
 rw [List.getElem?_take, if_pos (by omega), List.getElem?_map, List.getElem?_eq_getElem hj] at e
 rw [← Array.getElem?_toList, e, List.getElem?_eq_getElem hj]
 rfl
set_option maxHeartbeats 1000000 in
theorem sorted_in (n : Nat) (hn : 6 ≤ n) (g : Nat) (lb : Array Value) (eg : ∀ args w, (callFunc g args).run Tryz.prog w = .ok (.enter g args) w)
  (xs m : List Int) (hs : slices_Sort_Lint_int xs = some m) (hml : m.length = xs.length) (hpos : 0 < xs.length) (hlen : xs.length ≤ maxLen) (hbytes : xs.length * 8 ≤ 140737488355328) (w : World)
  (hseq : SeqStopsK Fence.wide (n - 1 - 1 - 1) Tryz.prog g lb (fun x : Int => #[Value.int .i64 x]) (Below w.heap.size) (fun ys => ys = xs) (fun pre => pre <+: xs) xs.length w) :
  CallsIn Fence.wide n Tryz.prog 135 #[.func (.func g) #[] lb] w fun e W' => ∃ b cap, e = .returned (.slice (some ⟨b, 0, none⟩) xs.length cap) ∧ (∀ j, j < xs.length → W'.cell? ⟨b, j, none⟩ = some (.int .i64 (m[j]?.getD 0))) ∧ Below w.heap.size w W' := by
 have h1 : 1 ≤ n := by omega
 refine callsIn_of_wp Tryz.func135 rfl trivial ?_ rfl
 simp only [Tryz.ntmps135, List.size_toArray, List.length_cons, List.length_nil, Nat.reduceAdd, Nat.reduceSub, Array.replicate_succ, Array.replicate_zero, List.push_toArray, List.append_toArray, List.nil_append, List.cons_append]
 gi_wp2_with (first
  | (refine ⟨trivial, ?_⟩; gi_at_call 142; refine (collect_in Fence.wide (n - 1) trivial trivial rfl (by omega) g lb trivial eg xs hlen hbytes w hseq).mono ?_; rintro e w' ⟨v, rfl, hrow, hB⟩; obtain ⟨b, cap, cur, rfl, hbb, hcell, hlc, hcm, hsz, htk⟩ := hrow.2.resolve_left (fun q => by omega))
  | (refine ⟨trivial, ?_⟩; gi_at_call 143; refine (callsIn_wide.2 (sort_in (xs := xs) (m := m) hs hml hcell hlc (by omega) (row_cells htk))).mono ?_; rintro e w2 ⟨⟨u, rfl⟩, hB2, hcs⟩))
 go_ret
 exact ⟨b, cap, rfl, hcs, hB.trans (hB2.mono hbb)⟩
end Go.Proofs.YtaaamoicidfgcaaGreat.Am
namespace Go.Proofs.YtaaamoicidfgcaaGreat.Am
open Go Go.RowKit Go.Shelf
set_option linter.unusedVariables false
set_option linter.unusedSimpArgs false
attribute [local go_sem] Oper.semAt_some
theorem ew64 (n : Int) : RowKit.wrap64 n = IntKind.wrap .i64 n := by
 have e1 : (2 ^ IntKind.i64.bits : Int) = 18446744073709551616 := rfl
 have e2 : (2 ^ (IntKind.i64.bits - 1) : Int) = 9223372036854775808 := rfl
 have e3 : IntKind.i64.signed = true := rfl
 simp only [RowKit.wrap64, IntKind.wrap, e1, e2, e3, Bool.true_and, decide_eq_true_eq]
 split <;> omega
theorem upto_le {α : Type} (f : Nat → α) (k : Nat) : ∀ d, ∃ rest, upto f (k + d) = upto f k ++ rest
 | 0 => ⟨[], by simp⟩
 | d + 1 => by
  obtain ⟨r, h⟩ := upto_le f k d
  exact ⟨r ++ [f (k + d)], by rw [← Nat.add_assoc, upto_succ, h, List.append_assoc]⟩
theorem cmtF_hit {commit : Int} {ts : List Int} {c : Int × Int → Bool} {k : Nat} (hk : k ≤ ts.length) {ini : List (Int × Int)} {last : Int × Int} (e : upto (bk ts.length ts) k = ini ++ [last]) (h0 : ∀ p ∈ ini, c p = false) (h1 : c last = true) : cmtF commit ts c = cmtAt commit last.1 := by
 obtain ⟨r, hr⟩ := upto_le (bk ts.length ts) k (ts.length - k)
 rw [show k + (ts.length - k) = ts.length by omega, e] at hr
 unfold cmtF
 rw [hr, List.find?_append, List.find?_append, List.find?_eq_none.2 (fun x hx => by simp [h0 x hx])]
 simp [h1]
theorem cmtF_miss {commit : Int} {ts : List Int} {c : Int × Int → Bool} (h : ∀ p ∈ upto (bk ts.length ts) ts.length, c p = false) : cmtF commit ts c = commit := by
 unfold cmtF
 rw [List.find?_eq_none.2 (fun x hx => by simp [h x hx])]
set_option maxRecDepth 100000 in
set_option maxHeartbeats 2000000 in
theorem commit0_in (term commit : Int) (sm st : Value) (hm : ∃ a cap, sm = .slice a 0 cap) (w : World) :
  CallsIn Fence.wide 12 Tryz.prog 123 #[.int .i64 term, .int .i64 commit, sm, st] w fun e W' => e = .returned (.int .i64 commit) ∧ Below w.heap.size w W' := by
 obtain ⟨a, cap, rfl⟩ := hm
 refine callsIn_of_wp_marks Tryz.func123 rfl trivial ?_ rfl
 simp only [Tryz.ntmps123, List.size_toArray, List.length_cons, List.length_nil, Nat.reduceAdd, Nat.reduceSub, Array.replicate_succ, Array.replicate_zero, List.push_toArray, List.append_toArray, List.nil_append, List.cons_append]
 gi_wp2
 have hB : Below w.heap.size w (((w.alloc (Obj.cells #[Value.int IntKind.i64 term] 3)).alloc (Obj.cells #[Value.int IntKind.i64 commit] 3)).alloc (Obj.cells #[Value.int IntKind.i64 commit] 3)) :=
  (((Below.refl _ w).alloc (Nat.le_refl _) _).alloc (by simp) _).alloc (by simp; omega) _
 have bR := Boxed.new ((w.alloc (Obj.cells #[Value.int IntKind.i64 term] 3)).alloc (Obj.cells #[Value.int IntKind.i64 commit] 3)) 3 (.int .i64 commit)
 rw [World.size_alloc, World.size_alloc] at bR
 have hc5 := bR.cell
 refine ⟨.int .i64 commit, ?_, rfl, hB⟩
 simp [results, Tryz.f123, go_sem, hc5]
set_option maxRecDepth 100000 in
set_option maxHeartbeats 2000000 in
theorem commit1_in (term commit : Int) (a1 a2 : Option Addr) (c1 c2 : Nat) (mt ts m : List Int) (hs : slices_Sort_Lint_int mt = some m) (hml : m.length = mt.length) (hpos : 0 < mt.length) (hmt : mt.length ≤ 12) (hts : ts.length ≤ 1000000)
  (w : World) (hm : Ints w.heap.size w (.slice a1 mt.length c1) mt) (ht : Ints w.heap.size w (.slice a2 ts.length c2) ts) :
  CallsIn Fence.wide 12 Tryz.prog 123 #[.int .i64 term, .int .i64 commit, .slice a1 mt.length c1, .slice a2 ts.length c2] w fun e W' =>
   e = .returned (.int .i64 (cmtF commit ts (cmtT term commit (m[(mt.length - 1) / 2]?.getD 0)))) ∧ Below w.heap.size w W' := by
 refine callsIn_of_wp_marks Tryz.func123 rfl trivial ?_ rfl
 simp only [Tryz.ntmps123, List.size_toArray, List.length_cons, List.length_nil, Nat.reduceAdd, Nat.reduceSub, Array.replicate_succ, Array.replicate_zero, List.push_toArray, List.append_toArray, List.nil_append, List.cons_append]
 obtain ⟨w3, hw3⟩ : ∃ w3, (((w.alloc (Obj.cells #[Value.int IntKind.i64 term] 3)).alloc (Obj.cells #[Value.int IntKind.i64 commit] 3)).alloc (Obj.cells #[Value.int IntKind.i64 0] 3)) = w3 := ⟨_, rfl⟩
 have hs3 : w3.heap.size = w.heap.size + 1 + 1 + 1 := by rw [← hw3]; simp
 have hB3 : Below w.heap.size w w3 := by rw [← hw3]; exact (((Below.refl _ w).alloc (Nat.le_refl _) _).alloc (by simp) _).alloc (by simp; omega) _
 have bT : Boxed w3 w.heap.size 3 (.int .i64 term) := by rw [← hw3]; exact ((Boxed.new w 3 (.int .i64 term)).alloc _).alloc _
 have bC : Boxed w3 (w.heap.size + 1) 3 (.int .i64 commit) := by
  have q := Boxed.new (w.alloc (Obj.cells #[Value.int IntKind.i64 term] 3)) 3 (.int .i64 commit)
  rw [World.size_alloc] at q; rw [← hw3]; exact q.alloc _
 have bR : Boxed w3 (w.heap.size + 1 + 1) 3 (.int .i64 0) := by
  have q := Boxed.new ((w.alloc (Obj.cells #[Value.int IntKind.i64 term] 3)).alloc (Obj.cells #[Value.int IntKind.i64 commit] 3)) 3 (.int .i64 0)
  rw [World.size_alloc, World.size_alloc] at q; rw [← hw3]; exact q
 obtain ⟨w4, hw4⟩ : ∃ w4, w3.alloc (Obj.cells #[Value.slice a1 mt.length c1] 26) = w4 := ⟨_, rfl⟩
 have hs4 : w4.heap.size = w3.heap.size + 1 := by rw [← hw4]; simp
 have hB4 : Below w3.heap.size w3 w4 := by rw [← hw4]; exact (Below.refl _ w3).alloc (Nat.le_refl _) _
 have bN : Boxed w4 w3.heap.size 26 (.slice a1 mt.length c1) := by rw [← hw4]; exact Boxed.new w3 _ _
 have hB : Below w.heap.size w w4 := hB3.trans (hB4.mono hB3.size)
 have hm4 : Ints w4.heap.size w4 (.slice a1 mt.length c1) mt := Ints.le hB.size (hm.below hB)
 have hseq := values_stops Fence.wide 8 trivial rfl (by omega) w3.heap.size w4.heap.size _ mt (by omega) w4 (by omega) (Nat.le_refl _) bN.cell hm4
 rw [hs3] at hseq
 have hsorted := sorted_in 11 (by omega) 144 _ (enters_of Tryz.func144 (by kernel_rfl) rfl) mt m hs hml hpos (by unfold maxLen; omega) (by omega) w4 hseq
 obtain ⟨top, htop⟩ : ∃ top, m[(mt.length - 1) / 2]?.getD 0 = top := ⟨_, rfl⟩
 rw [htop]
 gi_wp2_with (first
  | (refine ⟨trivial, ?_⟩; gi_at_call 137; refine (back_in Fence.wide _ trivial rfl _ _ _ _).mono ?_; rintro e w' ⟨rfl, rfl⟩)
  | (refine ⟨trivial, ?_⟩; gi_at_call 136; refine (values_in Fence.wide _ trivial rfl _ _ _ _).mono ?_; rintro e w' ⟨rfl, rfl⟩)
  | (refine ⟨trivial, ?_⟩; gi_at_call 135; refine hsorted.mono ?_; clear hsorted; rintro e w5 ⟨b, cap, rfl, hcs, hB5⟩; have hct := hcs ((mt.length - 1) / 2) (by omega); rw [htop] at hct; clear hcs htop))
 have bT5 : Boxed w5 w.heap.size 3 (.int .i64 term) := (hB5.block _ (by omega)).trans ((hB4.block _ (by omega)).trans bT)
 have bC5 : Boxed w5 (w.heap.size + 1) 3 (.int .i64 commit) := (hB5.block _ (by omega)).trans ((hB4.block _ (by omega)).trans bC)
 have bR5 : Boxed w5 (w.heap.size + 1 + 1) 3 (.int .i64 0) := (hB5.block _ (by omega)).trans ((hB4.block _ (by omega)).trans bR)
 have bP5 := (Boxed.new w5 3 (.int .i64 top)).alloc (Obj.cells #[Value.slice a2 ts.length c2] 26)
 have bS5 := Boxed.new (w5.alloc (Obj.cells #[Value.int .i64 top] 3)) 26 (.slice a2 ts.length c2)
 rw [World.size_alloc] at bS5
 have hBw5 : Below w.heap.size w w5 := hB.trans (hB5.mono hB.size)
 have hs5 := hB5.size
 have hB56 : Below w5.heap.size w5 ((w5.alloc (Obj.cells #[Value.int .i64 top] 3)).alloc (Obj.cells #[Value.slice a2 ts.length c2] 26)) := ((Below.refl _ w5).alloc (Nat.le_refl _) _).alloc (by simp) _
 replace bT5 := (bT5.alloc (Obj.cells #[Value.int .i64 top] 3)).alloc (Obj.cells #[Value.slice a2 ts.length c2] 26)
 replace bC5 := (bC5.alloc (Obj.cells #[Value.int .i64 top] 3)).alloc (Obj.cells #[Value.slice a2 ts.length c2] 26)
 replace bR5 := (bR5.alloc (Obj.cells #[Value.int .i64 top] 3)).alloc (Obj.cells #[Value.slice a2 ts.length c2] 26)
 have hs6 : ((w5.alloc (Obj.cells #[Value.int .i64 top] 3)).alloc (Obj.cells #[Value.slice a2 ts.length c2] 26)).heap.size = w5.heap.size + 2 := by simp
 generalize ((w5.alloc (Obj.cells #[Value.int .i64 top] 3)).alloc (Obj.cells #[Value.slice a2 ts.length c2] 26)) = w6 at *
 have hBw6 : Below w.heap.size w w6 := hBw5.trans (hB56.mono hBw5.size)
 have ht6 : Ints w6.heap.size w6 (.slice a2 ts.length c2) ts := Ints.le hBw6.size (ht.below hBw6)
 have hwlt : w.heap.size + 1 + 1 < w5.heap.size := by omega
 refine wpIn_rangeFunc_ownG rfl (by omega) (gf := 145) (lb := #[.pointer (some ⟨w5.heap.size + 1, 0, none⟩)]) rfl trivial (enters_of Tryz.func145 (by kernel_rfl) rfl)
  (back_stops Fence.wide 11 trivial rfl (by omega) (w5.heap.size + 1) w6.heap.size _ ts (by omega) w6 (by omega) (Nat.le_refl _) (by omega) bS5.cell ht6) belowK_t (belowK_b (Nat.le_refl _)) (Below.refl _ _) (fun _ => rfl)
  (fun pre W => ((∀ p ∈ pre, cmtT term commit top p = false) ∧ (Boxed W w.heap.size 3 (.int .i64 term) ∧ (Boxed W (w.heap.size + 1) 3 (.int .i64 commit) ∧ (Boxed W w5.heap.size 3 (.int .i64 top) ∧ Boxed W (w.heap.size + 1 + 1) 3 (.int .i64 0))))) ∧ (Below w.heap.size w W))
  (fun c pre W => (c = .ret ∧ ∃ ini last, pre = ini ++ [last] ∧ (∀ p ∈ ini, cmtT term commit top p = false) ∧ cmtT term commit top last = true ∧ Boxed W (w.heap.size + 1 + 1) 3 (.int .i64 (cmtAt commit last.1))) ∧ Below w.heap.size w W)
  (OwnFrom.and (OwnFrom.and (ownFrom_pure _ (fun pre => ∀ p ∈ pre, cmtT term commit top p = false)) (OwnFrom.and (Own.from (boxed_own _ _ (fun _ => _)) _) (OwnFrom.and (Own.from (boxed_own _ _ (fun _ => _)) _) (OwnFrom.and (Own.from (boxed_own _ _ (fun _ => _)) _) (Own.from (boxed_own _ _ (fun _ => _)) _))))) (ownFrom_below (Nat.le_refl _) (by omega)))
  (fun c => OwnFrom.and (Own.from (fun s A B row hs hg hr => by obtain ⟨hc, ini, last, e1, e2, e3, e4⟩ := hs; exact ⟨hc, ini, last, e1, e2, e3, boxed_own (β := Unit) _ _ (fun _ => _) () A B row e4 hg hr⟩) _) (ownFrom_below (Nat.le_refl _) (by omega)))
  ⟨⟨by simp, bT5, bC5, bP5, bR5⟩, hBw6⟩
  (fun x => { tmps := #[Value.int IntKind.i64 term, Value.int IntKind.i64 commit, Value.slice a1 mt.length c1,
     Value.slice a2 ts.length c2, Value.pointer (some { block := w.heap.size, off := 0 }),
     Value.pointer (some { block := w.heap.size + 1, off := 0 }), undef, undef,
     Value.pointer (some { block := w.heap.size + 1 + 1, off := 0 }),
     Value.slice (some { block := b, off := 0 }) mt.length cap,
     Value.pointer (some { block := w5.heap.size, off := 0 }), .int .i64 x.1, .int .i64 x.2, undef, Value.slice a1 mt.length c1,
     Value.int IntKind.i64 ↑mt.length, Value.bool false, undef, Value.slice a1 mt.length c1,
     Value.func (Fn.func 144) #[] #[Value.pointer (some { block := w.heap.size + 1 + 1 + 1, off := 0 })],
     Value.slice (some { block := b, off := 0 }) mt.length cap,
     Value.slice (some { block := b, off := 0 }) mt.length cap,
     Value.slice (some { block := b, off := 0 }) mt.length cap, Value.int IntKind.i64 ↑mt.length,
     Value.int IntKind.i64 (↑mt.length - 1), Value.int IntKind.i64 ((↑mt.length - 1) / 2),
     Value.pointer (some { block := b, off := (mt.length - 1) / 2 }), Value.int IntKind.i64 top,
     Value.slice a2 ts.length c2,
     Value.func (Fn.func 145) #[] #[Value.pointer (some { block := w5.heap.size + 1, off := 0 })], .int .i64 x.1, .int .i64 x.2,
     undef, undef, undef, undef, undef, undef, undef, undef, undef, undef, undef, undef, undef, undef], defers := [] }) ?assign ?body ?done ?stop
 case assign =>
  intro l x W K hK
  gi_wp2
  exact hK
 case body =>
  rintro l pre x W ⟨⟨hp, hT', hC', hP', hR'⟩, hB'⟩ _
  have hcT := hT'.cell; have hcC := hC'.cell; have hcP := hP'.cell; have hcR := hR'.cell; have hfR := hR'.frozen
  gi_wp2
  ·have h1 : x.2 = term := by assumption
   have h2 : RowKit.wrap64 (RowKit.wrap64 (commit + 1) + x.1) ≤ top := by assumption
   exact ⟨(KeepsOthers.setCell _ _ _).from _, ⟨rfl, pre, x, rfl, hp, by rw [ew64, ew64] at h2; simp [cmtT, cmtAt, h1, h2], by rw [show cmtAt commit x.1 = RowKit.wrap64 (RowKit.wrap64 (commit + 1) + x.1) by rw [ew64, ew64]; rfl]; exact hR'.set _⟩, hB'.setCell (p := ⟨w.heap.size + 1 + 1, 0, none⟩) (by simp only; omega) _⟩
  ·have h2 : top < RowKit.wrap64 (RowKit.wrap64 (commit + 1) + x.1) := by assumption
   exact ⟨KeepsFrom.refl _ _, Below.refl _ _, ⟨fun p hq => (List.mem_append.1 hq).elim (hp p) (fun e => by rw [ew64, ew64] at h2; rw [List.mem_singleton] at e; subst e; simp only [cmtT, cmtAt, Bool.and_eq_false_iff, decide_eq_false_iff_not]; exact .inr (decide_eq_false (Int.not_le.2 h2))), hT', hC', hP', hR'⟩, hB'⟩
  ·have h1 : ¬ x.2 = term := by assumption
   exact ⟨KeepsFrom.refl _ _, Below.refl _ _, ⟨fun p hq => (List.mem_append.1 hq).elim (hp p) (fun e => by simp at e; subst e; simp [cmtT, h1]), hT', hC', hP', hR'⟩, hB'⟩
 case done =>
  rintro D ys W hD rfl ⟨⟨hne, hT', hC', hP', hR'⟩, hB'⟩ hK
  have hcC := hC'.cell; have hcR := hR'.cell; have hfR := hR'.frozen
  gi_wp2
  have hK' := (KeepsOthers.setCell W ⟨w.heap.size + 1 + 1, 0, none⟩ (.int .i64 commit)).same D _ hK rfl
  refine ⟨by simp, .inl ⟨_, _, rfl, run_takeDeferred hK', ?_⟩⟩
  have hc5 := cell_kept (hR'.set (.int .i64 commit)).cell (grownBy_putObj' _ D (.deferred none)) (fun r e => by cases e; exact ⟨_, hK', rfl⟩)
  refine ⟨.int .i64 commit, ?_, ?_, (hB'.setCell (p := ⟨w.heap.size + 1 + 1, 0, none⟩) (by simp only; omega) _).trans (belowK_b (w := w) (Nat.le_refl _) _ D _ _ (by omega) hK' rfl rfl)⟩
  ·simp [results, Tryz.f123, go_sem, hc5]
  ·rw [cmtF_miss hne]
 case stop =>
  rintro D c pre W hD ⟨k, hk, rfl⟩ ⟨⟨rfl, ini, last, e1, e2, e3, hR'⟩, hB'⟩ hK
  gi_wp2
  refine ⟨by simp, .inl ⟨_, _, rfl, run_takeDeferred hK, ?_⟩⟩
  have hc5 := cell_kept hR'.cell (grownBy_putObj' _ D (.deferred none)) (fun r e => by cases e; exact ⟨_, hK, rfl⟩)
  refine ⟨.int .i64 (cmtAt commit last.1), ?_, ?_, hB'.trans (belowK_b (w := w) (Nat.le_refl _) W D _ _ (by omega) hK rfl rfl)⟩
  ·simp [results, Tryz.f123, go_sem, hc5]
  ·rw [cmtF_hit hk e1 e2 e3]
end Go.Proofs.YtaaamoicidfgcaaGreat.Am
namespace Go.Proofs.YtaaamoicidfgcaaGreat.Am
open Go
set_option linter.unusedVariables false
theorem loop_eq {S T : Type} {b : S → Option (Ctl T S)} (I : S → Prop) (m : S → Nat) (R : S → T)
  (step : ∀ s, I s → b s = some (.ret (R s)) ∨ ∃ s', b s = some (.go s') ∧ I s' ∧ m s' < m s ∧ R s' = R s) : ∀ (n : Nat) (s : S), I s → m s < n → loopN b n s = some (R s)
 | 0, s, _, h => absurd h (Nat.not_lt_zero _)
 | n + 1, s, hI, hm => by
  simp only [loopN]
  rcases step s hI with h | ⟨s', h, h1, h2, h3⟩
  ·rw [h]
  ·rw [h]
   simp only
   rw [loop_eq I m R step n s' h1 (by omega), h3]
theorem loop_eqF {S T : Type} {b : S → Option (Ctl T S)} (I : S → Prop) (m : S → Nat) (R : S → T) {s : S} (hI : I s) (hm : m s ≤ 1099511627776)
  (step : ∀ s, I s → b s = some (.ret (R s)) ∨ ∃ s', b s = some (.go s') ∧ I s' ∧ m s' < m s ∧ R s' = R s) : loopN b fuel s = some (R s) :=
 loop_eq I m R step fuel s hI (by unfold fuel; omega)
theorem idx_nat {α : Type} (l : List α) (i : Nat) : idx l (i : Int) = l[i]? := by unfold idx; rw [if_pos (by omega)]; simp
theorem idx_at {α : Type} {l : List α} {i : Nat} (h : i < l.length) : idx l (i : Int) = some l[i] := by rw [idx_nat, List.getElem?_eq_getElem h]
theorem slc_nat {α : Type} (l : List α) {a b : Nat} (h : a ≤ b) (hb : b ≤ l.length) : slc l (a : Int) (b : Int) = some ((l.take b).drop a) := by
 unfold slc; rw [if_pos ⟨by omega, by omega, by omega⟩]; simp
theorem app_of {α : Type} {b : Nat} {x y : List α} (h : (x.length + y.length) * b ≤ 140737488355328) (h2 : x.length + y.length ≤ 1099511627776) : app b x y = some (x ++ y) := by unfold app; rw [if_pos ⟨h, by omega⟩]
theorem updL_nat {α : Type} {l : List α} {i : Nat} {x : α} (h : i < l.length) : updL l (i : Int) x = some (l.set i x) := by unfold updL; rw [if_pos ⟨by omega, by omega⟩]; simp
theorem kont_go' {E S : Type} {s : S} {f : S → Option E} : kont (some (.go s)) f = f s := rfl
end Go.Proofs.YtaaamoicidfgcaaGreat.Am
namespace Go.Proofs.YtaaamoicidfgcaaGreat.Am
open Go
set_option linter.unusedVariables false
def gt (m : List Int) (k : Nat) : Int := m.getD k 0
theorem gt_at {m : List Int} {k : Nat} (h : k < m.length) : gt m k = m[k] := by unfold gt; rw [List.getD_eq_getElem?_getD, List.getElem?_eq_getElem h]; rfl
theorem sort_eq {d : List Int} (h : d.length ≤ 12) : ∃ m, slices_Sort_Lint_int d = some m ∧ m.length = d.length ∧ m.Perm d ∧ ∀ k l, k < l → l < m.length → gt m k ≤ gt m l := by
 refine ⟨isort d, by unfold slices_Sort_Lint_int; rw [if_pos (by omega)], isort_length d, isort_perm d, fun k l h1 h2 => ?_⟩
 have := List.pairwise_iff_getElem.1 (isort_sorted d) k l (by omega) h2 h1
 rw [gt_at (by omega), gt_at h2]
 exact this
end Go.Proofs.YtaaamoicidfgcaaGreat.Am
