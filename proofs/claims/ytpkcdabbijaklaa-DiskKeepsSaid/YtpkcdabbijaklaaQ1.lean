/- Part 1 of the proof: values, memory, walks or the plain law. -/
import Derived.Test.YtpkcdabbijaklaaQ0
import Derived.SizedLaws
import Derived.Deep.Slices
import Derived.Below
import Derived.Carry
import Derived.Lib.AppendZeros
import Derived.Maps.RangeRun
import Derived.Maps.Range
import Derived.Laws.StructEq
import Derived.Test.YtpkcdabbijaklaaProg
import Derived.KernelRfl
namespace Go.Proofs.Ytpkcdabbijaklaa.Am
open Go
section
variable {P : Program} {ops : Array Oper} {cs : List Nat} {rest : List Oper} {o : Oper} {fr : Frm} {H : Mem} {K : Frm → Mem → Prop} {hint : Hints}
end
theorem wrap64 {n : Int} (h0 : -9223372036854775808 ≤ n) (h1 : n ≤ 9223372036854775807) : IntKind.i64.wrap n = n := by
 have e1 : (2 : Int) ^ IntKind.i64.bits = 18446744073709551616 := by decide
 have e2 : (2 : Int) ^ (IntKind.i64.bits - 1) = 9223372036854775808 := by decide
 unfold IntKind.wrap
 simp only [e1, e2, IntKind.signed, Bool.true_and]
 by_cases h : n % 18446744073709551616 ≥ 9223372036854775808
 ·rw [if_pos (decide_eq_true h)]; omega
 ·rw [if_neg (by simpa using h)]; omega
def AVLe (a a' : AV) : Prop := ∀ g n v, VR g n a v → VR g n a' v
theorem AVLe.refl (a : AV) : AVLe a a := fun _ _ _ h => h
theorem AVLe.nil (z : Nat) : AVLe (.sc (.slice none 0 0)) (.sl z [] .no) := fun _ _ _ h => by cases h; exact .nil z .no fun t e => by cases e
theorem AVLe.no (z : Nat) (es : List (List PV)) (k : Tk) : AVLe (.sl z es k) (.sl z es .no) := fun _ _ _ h => h.no_tok
def PLe (p p' : PV) : Prop := ∀ ro v, PR ro p v → PR ro p' v
theorem PLe.refl (p : PV) : PLe p p := fun _ _ h => h
theorem PLe.nil (z : Nat) : PLe (.sc (.slice none 0 0)) (.sl z []) := fun _ _ h => by cases h; exact .nil z
def PsLe : List PV → List PV → Prop
 | [], [] => True
 | p :: r, p' :: r' => PLe p p' ∧ PsLe r r'
 | _, _ => False
theorem PsLe.refl : ∀ l, PsLe l l
 | [] => trivial
 | p :: r => ⟨.refl p, PsLe.refl r⟩
theorem PsLe.get : ∀ {l l' : List PV}, PsLe l l' → l'.length = l.length ∧ ∀ (i : Nat) p', l'[i]? = some p' → ∃ p, l[i]? = some p ∧ PLe p p'
 | [], [], _ => ⟨rfl, fun i c h => by simp at h⟩
 | a :: r, a' :: r', h => by
  obtain ⟨h1, h2⟩ := PsLe.get h.2
  refine ⟨by simp [h1], fun i c hc => ?_⟩
  cases i with
  | zero => simp at hc; subst hc; exact ⟨a, rfl, h.1⟩
  | succ i => simp only [List.getElem?_cons_succ] at hc ⊢; exact h2 i c hc
 | [], _ :: _, h => h.elim
 | _ :: _, [], h => h.elim
theorem PsLe.append : ∀ {a a' b b' : List PV}, PsLe a a' → PsLe b b' → PsLe (a ++ b) (a' ++ b')
 | [], [], _, _, _, h => h
 | _ :: _, _ :: _, _, _, h, h' => ⟨h.1, PsLe.append h.2 h'⟩
 | [], _ :: _, _, _, h, _ => h.elim
 | _ :: _, [], _, _, h, _ => h.elim
def ELe : List (List PV) → List (List PV) → Prop
 | [], [] => True
 | p :: r, p' :: r' => PsLe p p' ∧ ELe r r'
 | _, _ => False
theorem ELe.spec : ∀ {l l' : List (List PV)}, ELe l l' → l'.length = l.length ∧ (∀ z, (∀ e, e ∈ l → e.length = z) → ∀ e, e ∈ l' → e.length = z) ∧ PsLe l.flatten l'.flatten
 | [], [], _ => ⟨rfl, (fun _ _ _ h => nomatch h), trivial⟩
 | a :: r, a' :: r', h => by
  obtain ⟨h1, h2, h3⟩ := ELe.spec h.2
  refine ⟨by simp [h1], fun z hz e he => ?_, PsLe.append h.1 h3⟩
  rcases List.mem_cons.1 he with rfl | he
  ·rw [h.1.get.1]; exact hz _ (List.mem_cons_self ..)
  ·exact h2 z (fun e he => hz e (List.mem_cons_of_mem _ he)) e he
 | [], _ :: _, h => h.elim
 | _ :: _, [], h => h.elim
theorem AVLe.sl {z : Nat} {es es' : List (List PV)} (k : Tk) (h : ELe es es') : AVLe (.sl z es k) (.sl z es' k) := fun g n v hv => by
 obtain ⟨h1, h2, h3⟩ := h.spec
 cases hv with
 | nil z k hk => cases es' with
  | nil => exact .nil z k hk
  | cons a l => cases h1
 | sl z es k a cap f hsp hcap hz hrow hk =>
  rw [← h1] at hcap hk ⊢
  refine .sl z es' k a cap f hsp hcap (h2 z hz) (fun i p' hp => ?_) hk
  obtain ⟨p, q1, q2⟩ := h3.get.2 i p' hp
  exact ⟨(hrow i p q1).1, q2 _ _ (hrow i p q1).2⟩
def ALe : List AV → List AV → Prop
 | [], [] => True
 | a :: r, a' :: r' => AVLe a a' ∧ ALe r r'
 | _, _ => False
theorem ALe.get : ∀ {l l' : List AV}, ALe l l' → l.length = l'.length ∧ ∀ (i : Nat) c', l'[i]? = some c' → ∃ c, l[i]? = some c ∧ AVLe c c'
 | [], [], _ => ⟨rfl, fun i c h => by simp at h⟩
 | a :: r, a' :: r', h => by
  obtain ⟨h1, h2⟩ := ALe.get h.2
  refine ⟨by simp [h1], fun i c hc => ?_⟩
  cases i with
  | zero => simp at hc; subst hc; exact ⟨a, rfl, h.1⟩
  | succ i => simp only [List.getElem?_cons_succ] at hc ⊢; exact h2 i c hc
 | [], _ :: _, h => h.elim
 | _ :: _, [], h => h.elim
theorem ACalls.le {P : Program} {f : FuncId} {args args' : List AV} {H : Mem} {R : AV → Mem → Prop} (h : ALe args args') (hc : ACalls P f args' H R) : ACalls P f args H R :=
 ⟨hc.1, fun g w vals hm hs hv => hc.2 g w vals hm (hs.trans h.get.1) fun i c' hi => by
  obtain ⟨c, h1, h2⟩ := h.get.2 i c' hi
  exact h2 _ _ _ (hv i c h1)⟩
def FzL (fr : Frm) (id : Nat) (n : Nat) (pcs : List PV) : List (Nat × AV) → Prop
 | [] => True
 | (d, v) :: r => (fr d = v ∨ ∃ off len mc s, fr d = .hs id off len mc s ∧ off + len * s ≤ n ∧ v = .sl s (chunk s len ((pcs.drop off).take (len * s))) .no) ∧ FzL fr id n pcs r
theorem Reb.freeze {N n0 : Nat} {fr : Frm} {H : Mem} {id : Nat} {cs : List AV} {pcs : List PV} {l : List (Nat × AV)} (hid : H[id]? = some (.cells cs)) (hp : cs.mapM AV.pv = some pcs) (hl : FzL fr id cs.length pcs l) :
  Reb N n0 fr (Frm.of l) H (H.set id .dead) := fun g w tmps hn hf hm => by
 obtain ⟨hm1, hg1⟩ := hm.freeze hid
 refine ⟨_, ⟨hf.size, ?_⟩, hm1, ⟨⟨hg1.ro, fun i hi => hg1.mu i (by omega)⟩, fun b _ ho => ⟨ho, rfl⟩, Nat.le_refl _, rfl, rfl, rfl⟩, by simpa using hn⟩
 intro t
 have hlen : (H.set id Ent.dead).length = H.length := by simp
 rw [hlen]
 have hv := hf.vr t
 generalize tmps.getD t undef = u at hv
 induction l with
 | nil => exact .any _
 | cons p r ih =>
  obtain ⟨d, v⟩ := p
  obtain ⟨h1, h2⟩ := hl
  by_cases e : t = d
  ·subst e
   simp only [Frm.of, if_true]
   rcases h1 with h1 | ⟨off, len, mc, s, h1, h3, rfl⟩
   ·rw [← h1]; exact hv.mono hg1 (Nat.le_refl _)
   ·rw [h1] at hv
    cases hv with
    | hs _ _ _ _ _ cap hidl hll hmc hcap => exact freeze_row hm hid hp h3 (Nat.le_trans hll hmc)
    | hn _ _ _ a hidl =>
     cases a with
     | none => exact .nil s .no fun t e => by cases e
     | some a => exact VR.sl s [] .no a 0 (fun _ => undef) (.inl rfl) (Nat.le_refl _) (fun e he => by cases he) (fun k p hk => by simp at hk) trivial
  ·simp only [Frm.of, if_neg e]
   exact ih h2
end Go.Proofs.Ytpkcdabbijaklaa.Am
namespace Go.Proofs.Ytpkcdabbijaklaa.Am
open Go
inductive Ctl (E S : Type) where
 | ret (e : E)
 | go (s : S)
def loopN {S T : Type} (b : S → Option (Ctl T S)) : Nat → S → Option T
 | 0, _ => none
 | n + 1, s => match b s with
  | none => none
  | some (.ret t) => some t
  | some (.go s') => loopN b n s'
def fuel : Nat := 4611686018427387904
def kont {E S : Type} (c : Option (Ctl E S)) (f : S → Option E) : Option E :=
 match c with
 | none => none
 | some (.ret e) => some e
 | some (.go s) => f s
def early {E S : Type} (x : Option E) : Option (Ctl E S) := x.map .ret
def idx {α : Type} (l : List α) (i : Int) : Option α := if 0 ≤ i then l[i.toNat]? else none
def slc {α : Type} (l : List α) (lo hi : Int) : Option (List α) :=
 if 0 ≤ lo ∧ lo ≤ hi ∧ hi ≤ l.length then some ((l.take hi.toNat).drop lo.toNat) else none
def app {α : Type} (b : Nat) (x y : List α) : Option (List α) :=
 if (x.length + y.length) * b ≤ 140737488355328 ∧ x.length + y.length ≤ 9223372036854775807 then some (x ++ y) else none
def mks {α : Type} (b : Nat) (z : α) (n : Int) : Option (List α) := if 0 ≤ n ∧ b * n ≤ 140737488355328 ∧ n ≤ 9223372036854775807 then some (List.replicate n.toNat z) else none
def updL {α : Type} (l : List α) (i : Int) (x : α) : Option (List α) := if 0 ≤ i ∧ i < l.length then some (l.set i.toNat x) else none
def cnt (k : IntKind) (b : Int) : Option Nat := if 0 ≤ b then some (min b.toNat k.bits) else none
def shrI (a : Int) (n : Nat) : Int := a / 2 ^ n
def maxI (a b : Int) : Int := if b > a then b else a
def minI (a b : Int) : Int := if b < a then b else a
def u8 (n : Int) : UInt8 := UInt8.ofNat n.toNat
def strOf (l : List Int) : List UInt8 := l.map u8
section
variable {α β E S T : Type}
theorem bind_some {o : Option α} {f : α → Option β} {b : β} (h : o.bind f = some b) : ∃ a, o = some a ∧ f a = some b := by
 cases o with
 | none => cases h
 | some a => exact ⟨a, rfl, h⟩
theorem kont_some {c : Option (Ctl E S)} {f : S → Option E} {e : E} (h : kont c f = some e) : ∃ x, c = some x ∧ kont (some x) f = some e := by
 cases c with
 | none => cases h
 | some x => exact ⟨x, rfl, h⟩
theorem kont_go {s : S} {f : S → Option E} {e : E} (h : kont (some (.go s)) f = some e) : f s = some e := h
theorem early_some {x : Option E} {c : Ctl E S} {f : S → Option E} {e : E} (h : early x = some c) (hk : kont (some c) f = some e) : x = some e := by
 cases x with
 | none => cases h
 | some y =>
  simp only [early, Option.map_some, Option.some.injEq] at h
  subst h
  exact hk
theorem early_ret {x : Option T} {c : Ctl T S} {t : T} (h : early x = some c) (ht : ∀ t', c = .ret t' → t' = t) : x = some t := by
 cases x with
 | none => cases h
 | some y =>
  simp only [early, Option.map_some, Option.some.injEq] at h
  subst h
  rw [ht y rfl]
theorem ite_t {b : Bool} {x y z : Option α} (hb : b = true) (h : (if b = true then x else y) = z) : x = z := by rw [if_pos hb] at h; exact h
theorem ite_f {b : Bool} {x y z : Option α} (hb : b = false) (h : (if b = true then x else y) = z) : y = z := by rw [if_neg (by rw [hb]; decide)] at h; exact h
theorem idx_some {l : List α} {i : Int} {a : α} (h : idx l i = some a) : 0 ≤ i ∧ l[i.toNat]? = some a := by
 unfold idx at h
 split at h
 ·exact ⟨by assumption, h⟩
 ·cases h
theorem idx_lt {l : List α} {i : Int} {a : α} (h : idx l i = some a) : 0 ≤ i ∧ i < l.length := by
 obtain ⟨h0, h1⟩ := idx_some h
 have := (List.getElem?_eq_some_iff.1 h1).1
 omega
theorem slc_some {l m : List α} {lo hi : Int} (h : slc l lo hi = some m) : 0 ≤ lo ∧ lo ≤ hi ∧ hi ≤ l.length ∧ m = (l.take hi.toNat).drop lo.toNat := by
 unfold slc at h
 split at h
 ·rename_i hc; cases h; exact ⟨hc.1, hc.2.1, hc.2.2, rfl⟩
 ·cases h
theorem app_some {b : Nat} {x y z : List α} (h : app b x y = some z) : (x.length + y.length) * b ≤ 140737488355328 ∧ x.length + y.length ≤ 9223372036854775807 ∧ z = x ++ y := by
 unfold app at h
 split at h
 ·rename_i hc; cases h; exact ⟨hc.1, hc.2, rfl⟩
 ·cases h
theorem mks_some {b : Nat} {x : α} {n : Int} {z : List α} (h : mks b x n = some z) : 0 ≤ n ∧ b * n ≤ 140737488355328 ∧ n ≤ 9223372036854775807 ∧ z = List.replicate n.toNat x := by
 unfold mks at h
 split at h
 ·rename_i hc; cases h; exact ⟨hc.1, hc.2.1, hc.2.2, rfl⟩
 ·cases h
theorem updL_some {l m : List α} {i : Int} {x : α} (h : updL l i x = some m) : 0 ≤ i ∧ i < l.length ∧ m = l.set i.toNat x := by
 unfold updL at h
 split at h
 ·rename_i hc; cases h; exact ⟨hc.1, hc.2, rfl⟩
 ·cases h
theorem updL_len {l m : List α} {i : Int} {x : α} (h : updL l i x = some m) : m.length = l.length := by rw [(updL_some h).2.2, List.length_set]
theorem cnt_some {k : IntKind} {b : Int} {n : Nat} (h : cnt k b = some n) : 0 ≤ b ∧ n = min b.toNat k.bits := by
 unfold cnt at h
 split at h
 ·rename_i hc; cases h; exact ⟨hc, rfl⟩
 ·cases h
end
def Ik (k : IntKind) (n : Int) : Prop := k.min ≤ n ∧ n ≤ k.max
theorem Ik.u8 {n : Int} (h : Ik .u8 n) : 0 ≤ n ∧ n < 256 := by
 obtain ⟨h1, h2⟩ := h
 have h1 : 0 ≤ n := h1
 have h2 : n ≤ 255 := h2
 omega
theorem Ik.u64 {n : Int} (h : Ik .u64 n) : 0 ≤ n ∧ n < 18446744073709551616 := by
 obtain ⟨h1, h2⟩ := h
 have h1 : 0 ≤ n := h1
 have h2 : n ≤ 18446744073709551615 := h2
 omega
theorem Ik.i64 {n : Int} (h : Ik .i64 n) : -9223372036854775808 ≤ n ∧ n ≤ 9223372036854775807 := h
def c_u8 (n : Int) : List PV := [.sc (.int .u8 n)]
def c_L {α : Type} (z : Nat) (c : α → List PV) (l : List α) : List PV := [.sl z (l.map c)]
end Go.Proofs.Ytpkcdabbijaklaa.Am
namespace Go.Proofs.Ytpkcdabbijaklaa.Am
open Go Go.RowKit Go.Deep
def g0 (W : World) : Gh := ⟨fun b o => W.cell? ⟨b, o, none⟩, fun _ => none, fun _ => ⟨0, 1, 0⟩⟩
theorem MR0 (W : World) : MR (g0 W) [] W := ⟨fun _ _ _ h => h, fun id e h => by simp at h, fun b id h => by cases h⟩
theorem ACalls.below {P : Program} {f : FuncId} {args : List AV} (h : ACalls P f args [] fun r _ => r = .sc (.bool true)) {W : World} {vals : Array Value} (hs : vals.size = args.length)
  (hv : ∀ (i : Nat) c, args[i]? = some c → VR (g0 W) 0 c (vals.getD i undef)) : Calls P f vals W fun e W' => e = .returned (.bool true) ∧ Below W.heap.size W W' :=
 (h.2 (g0 W) W vals (MR0 W) hs hv).mono fun _ _ ⟨v, he, r, H', g', hr, hvr, _, ev, _⟩ => by
  subst hr
  cases hvr
  exact ⟨he, ev.os, ev.tape, ev.output, ev.size, fun k hk => (ev.un k hk rfl).2⟩
def Cd (P : Program) (t : TypeId) (z : Nat) (R : List PV → Prop) : Prop :=
 ∀ {T : Type} (enc : TypeId × Value → T) (W : World) (fuel : Nat) (cs : List Value) (x : DataW T × List MemPlace), DataW.trod enc P W 0 (fun _ => true) true fuel t cs = some x →
  (x.1.weights P t).all (· ≤ reachBytes) = true → cs.length = z ∧ ∃ ps, R ps ∧ ps.length = z ∧ ∀ (k : Nat) p, ps[k]? = some p → ∃ v, cs[k]? = some v ∧ PR (g0 W).ro p v
variable {P : Program}
theorem Cd.mono {t : TypeId} {z : Nat} {R R' : List PV → Prop} (hR : ∀ ps, R ps → R' ps) (h : Cd P t z R) : Cd P t z R' := fun enc W fuel cs x hx hw => by
 obtain ⟨h1, ps, h2, h3, h4⟩ := h enc W fuel cs x hx hw
 exact ⟨h1, ps, hR _ h2, h3, h4⟩
theorem Cd_int {t : TypeId} {k : IntKind} (ht : P.underlying t = some (.int k)) : Cd P t 1 fun ps => ∃ n, ps = [.sc (.int k n)] ∧ k.min ≤ n ∧ n ≤ k.max := fun enc W fuel cs x hx _ => by
 obtain ⟨m, rfl, _, hw⟩ := DataW.trod_int ht hx
 simp only [Lit.wf, Bool.and_eq_true, decide_eq_true_eq] at hw
 refine ⟨rfl, _, ⟨m, rfl, hw.1, hw.2⟩, rfl, fun k p hk => ?_⟩
 cases k with
 | zero => simp at hk; subst hk; exact ⟨_, rfl, .sc _ rfl⟩
 | succ k => simp at hk
theorem uniform_get {α : Type} {z : Nat} : ∀ {es : List (List α)}, (∀ e, e ∈ es → e.length = z) → ∀ {k : Nat} {p : α}, es.flatten[k]? = some p → ∃ (i j : Nat) (e : List α), es[i]? = some e ∧ e[j]? = some p ∧ k = i * z + j
 | [], _, k, p, h => by simp at h
 | e :: es, hz, k, p, h => by
  rw [List.flatten_cons] at h
  have he := hz e (List.mem_cons_self ..)
  rcases Nat.lt_or_ge k e.length with hk | hk
  ·rw [List.getElem?_append_left hk] at h
   exact ⟨0, k, e, rfl, h, by omega⟩
  ·rw [List.getElem?_append_right hk] at h
   obtain ⟨i, j, e', h1, h2, h3⟩ := uniform_get (fun e he => hz e (List.mem_cons_of_mem _ he)) h
   exact ⟨i + 1, j, e', h1, h2, by rw [Nat.add_mul]; omega⟩
theorem weights_mem_all {T : Type} {e : TypeId} : ∀ {l : List (DataW T)} {d : DataW T}, d ∈ l → ∀ n ∈ d.weights P e, n ∈ DataW.weightsAll P e l
 | d0 :: l, d, h, n, hn => by
  simp only [DataW.weightsAll, List.mem_append]
  rcases List.mem_cons.1 h with rfl | h
  ·exact .inl hn
  ·exact .inr (weights_mem_all h n hn)
theorem Cd_slice {t e : TypeId} {z : Nat} {R : List PV → Prop} (ht : P.underlying t = some (.slice e)) (hz : P.cellsOf e = z) (hpos : 0 < z) (h : Cd P e z R) :
  Cd P t 1 fun ps => ∃ es, ps = [.sl z es] ∧ (∀ x, x ∈ es → R x) ∧ es.length * P.bytesOf e ≤ 140737488351232 := fun enc W fuel cs x hx hw => by
 rcases open_slice ht hx with ⟨rfl, _⟩ | ⟨a, len, cap, m, n, D, Pl, rfl, _, hl, hm, hmm, hxe, hel⟩
 ·exact ⟨rfl, _, ⟨[], rfl, (fun x h => nomatch h), by simp⟩, rfl, fun k p hk => by
   cases k with
   | zero => simp at hk; subst hk; exact ⟨_, rfl, .nil z⟩
   | succ k => simp at hk⟩
 ·simp only [if_true] at hmm
  subst hmm
  rw [hz] at hel
  rw [hxe] at hw
  simp only [DataW.weights, ht, List.all_cons, Bool.and_eq_true, decide_eq_true_eq, List.length_map, List.length_range] at hw
  obtain ⟨hw1, hw2⟩ := hw
  have hwl : len * P.bytesOf e ≤ 140737488351232 := Nat.le_trans (Nat.mul_le_mul_right _ (Nat.le_add_right _ _)) hw1
  have hD : ∀ i, i < m → ((D i).weights P e).all (· ≤ reachBytes) = true := fun i hi => by
   rw [List.all_eq_true]
   intro k hk
   refine List.all_eq_true.1 hw2 k ?_
   rw [List.mem_append]
   rcases Nat.lt_or_ge i len with hil | hil
   ·exact .inl (weights_mem_all (List.mem_map.2 ⟨i, List.mem_range.2 hil, rfl⟩) k hk)
   ·exact .inr (weights_mem_all (List.mem_map.2 ⟨i - len, List.mem_range.2 (by omega), rfl⟩) k (by rw [show len + (i - len) = i by omega]; exact hk))
  have hq : ∀ i, i < m → ∃ ps, R ps ∧ ps.length = z ∧ ∀ (j : Nat) p, ps[j]? = some p → ∃ v, W.cell? ((a.add (i * z)).add j) = some v ∧ PR (g0 W).ro p v := fun i hi => by
   obtain ⟨cs', h1, h2⟩ := hel i hi
   obtain ⟨_, c2, c3⟩ := World.cells?_some h1
   obtain ⟨_, ps, p1, p2, p3⟩ := h enc W n cs' _ h2 (hD i hi)
   refine ⟨ps, p1, p2, fun j p hj => ?_⟩
   obtain ⟨v, v1, v2⟩ := p3 j p hj
   have hlt := lt_of_get hj
   exact ⟨v, (c3 j (by omega)).trans v1, v2⟩
  have hsp : m = 0 ∨ a.spot = none := by
   rcases Nat.eq_zero_or_pos m with h0 | h0
   ·exact .inl h0
   ·right
    obtain ⟨ps, _, p2, p3⟩ := hq 0 h0
    obtain ⟨v, hv, _⟩ := p3 0 ps[0] (List.getElem?_eq_getElem (by omega))
    simp only [Nat.zero_mul, Addr.add] at hv
    unfold World.cell? at hv
    cases hs : a.spot with
    | none => rfl
    | some s =>
     split at hv
     ·simp [hs] at hv
     ·cases hv
  obtain ⟨F, hF⟩ := choose_lt (α := List PV) hq
  let es := (List.range len).map F
  have hes : es.length = len := by simp [es]
  have hlen : ∀ e, e ∈ es → e.length = z := fun e he => by
   obtain ⟨i, hi, rfl⟩ := List.mem_map.1 he
   exact (hF i (by have := List.mem_range.1 hi; omega)).2.1
  have hcell : ∀ (k : Nat) p, es.flatten[k]? = some p → ∃ v, W.cell? ⟨a.block, a.off + k, none⟩ = some v ∧ PR (g0 W).ro p v := fun k p hk => by
   obtain ⟨i, j, e, h1, h2, rfl⟩ := uniform_get hlen hk
   have hi : i < len := by have := lt_of_get h1; omega
   simp only [es, List.getElem?_map, List.getElem?_range hi, Option.map_some, Option.some.injEq] at h1
   subst h1
   have hs := hsp.resolve_left (by omega)
   obtain ⟨v, v1, v2⟩ := (hF i (by omega)).2.2 j p h2
   rw [add_plain hs, add_plain rfl] at v1
   exact ⟨v, by rw [← Nat.add_assoc]; exact v1, v2⟩
  refine ⟨rfl, _, ⟨es, rfl, fun x hx => ?_, by rw [hes]; exact hwl⟩, rfl, fun k p hk => ?_⟩
  ·obtain ⟨i, hi, rfl⟩ := List.mem_map.1 hx
   exact (hF i (by have := List.mem_range.1 hi; omega)).1
  ·cases k with
   | zero =>
    simp at hk; subst hk
    refine ⟨_, rfl, ?_⟩
    have := PR.sl (ro := (g0 W).ro) z es a m (fun k => (W.cell? ⟨a.block, a.off + k, none⟩).getD undef) hsp (by omega) hlen (fun k p hk => by
     obtain ⟨v, v1, _⟩ := hcell k p hk
     simp only [g0, v1, Option.getD_some]) (fun k p hk => by
     obtain ⟨v, v1, v2⟩ := hcell k p hk
     simp only [v1, Option.getD_some]; exact v2)
    rw [hes] at this
    exact this
   | succ k => simp at hk
theorem arg_sl {t : TypeId} {R : List PV → Prop} (hc : Cd P t 1 R) {T : Type} {enc : TypeId × Value → T} {W : World} {a : Option Addr} {len cap : Nat} {d : DataW T} {ps : List MemPlace}
  (h : DataW.Trod enc P W 0 (fun _ => true) true t (.slice a len cap) d ps) (hw : (d.weights P t).all (· ≤ reachBytes) = true) : ∃ p, R [p] ∧ VR (g0 W) 0 p.av (.slice a len cap) := by
 obtain ⟨fuel, hf⟩ := h
 obtain ⟨_, qs, h1, h2, h3⟩ := hc enc W fuel _ _ hf hw
 match qs, h2 with
 | [p], _ =>
  obtain ⟨v, v1, v2⟩ := h3 0 p rfl
  simp [Value.cells] at v1
  subst v1
  exact ⟨p, h1, .of_PR v2⟩
def ArgsR (g : Gh) (n : Nat) : List AV → List Value → Prop
 | [], [] => True
 | a :: r, v :: s => VR g n a v ∧ ArgsR g n r s
 | _, _ => False
theorem ArgsR.get {g : Gh} {n : Nat} : ∀ {asl : List AV} {vs : List Value}, ArgsR g n asl vs → vs.length = asl.length ∧ ∀ (i : Nat) c, asl[i]? = some c → VR g n c (vs.getD i undef)
 | [], [], _ => ⟨rfl, fun i c h => by simp at h⟩
 | a :: r, v :: s, h => by
  obtain ⟨h1, h2⟩ := ArgsR.get h.2
  refine ⟨by simp [h1], fun i c hc => ?_⟩
  cases i with
  | zero => simp at hc; subst hc; exact h.1
  | succ i => simp only [List.getElem?_cons_succ] at hc; simpa using h2 i c hc
 | [], _ :: _, h => h.elim
 | _ :: _, [], h => h.elim
theorem ACalls.law {f : FuncId} {args : List AV} {Q : Mem → Prop} (h : ACalls P f args [] fun r H' => r = .sc (.bool true) ∧ Q H') {W : World} {vals : List Value} (hv : ArgsR (g0 W) 0 args vals) :
  Calls P f vals.toArray W fun e W' => e = .returned (.bool true) ∧ Below W.heap.size W W' :=
 (h.mono fun _ _ q => q.1).below (by simpa using hv.get.1) fun i c hc => by simpa [List.getD_eq_getElem?_getD, Array.getD_eq_getD_getElem?] using hv.get.2 i c hc
end Go.Proofs.Ytpkcdabbijaklaa.Am
namespace Go.Proofs.Ytpkcdabbijaklaa.Am
open Go
set_option linter.unusedVariables false
def Det (r : AV) (H1 : Mem) : AV → Mem → Prop := fun r' H' => AVLe r' r ∧ H' = H1
theorem OpS.det {P : Program} {o : Oper} {fr : Frm} {H H1 : Mem} {r : AV} (h : OpS P o fr H (Det r H1)) : OpS P o fr H fun r' H' => r' = r ∧ H' = H1 := fun g w ev h1 h2 =>
 Ls.mono (fun v w' s => s.mono' fun r' H' g' v' ⟨k1, k2⟩ hv => ⟨r, ⟨rfl, k2⟩, k1 _ _ _ hv⟩) (h g w ev h1 h2)
section
variable {P : Program} {ops : Array Oper} {cs : List Nat} {rest : List Oper} {o : Oper} {fr : Frm} {H : Mem} {K : Frm → Mem → Prop}
theorem OpsS_nil (h : K fr H) : OpsS P ops [] fr H K := h
theorem OpsS_det (r : AV) (H1 : Mem) (hg : agd ops fr o = some true) (h : OpS P o fr H (Det r H1)) (h2 : OpsS P ops rest (fr.put o.dst r) H1 K) : OpsS P ops (o :: rest) fr H K := by
 simp only [OpsS, hg]
 exact h.det.mono fun r' H' ⟨e1, e2⟩ => by subst e1 e2; exact h2
theorem OpsS_skip (hg : agd ops fr o = some false) (h : OpsS P ops rest (fr.put o.dst undefA) H K) : OpsS P ops (o :: rest) fr H K := by
 simp only [OpsS, hg]
 exact h
theorem OpsS_test {b : Bool} (hg : agd ops fr o = some true) (h : OpS P o fr H (Det (.sc (.bool b)) H)) (h1 : b = true → OpsS P ops rest (fr.put o.dst (.sc (.bool true))) H K)
  (h2 : b = false → OpsS P ops rest (fr.put o.dst (.sc (.bool false))) H K) : OpsS P ops (o :: rest) fr H K := by
 refine OpsS_det (.sc (.bool b)) H hg h ?_
 cases b
 ·exact h2 rfl
 ·exact h1 rfl
variable {B : Mem} {J : Mem → Prop} {T : Bool}
theorem DRun_det0 (r : AV) (hg : agd ops fr o = some true) (h : ∀ H0 : Mem, OpS P o fr H0 (Det r H0)) (h2 : DRun P J T ops cs rest (fr.put o.dst r) B H K) : DRun P J T ops (0 :: cs) (o :: rest) fr B H K :=
 ⟨r, H, ⟨fun _ => rfl, fun _ => List.prefix_refl _, .inl rfl, .inl ⟨hg, .inl ⟨rfl, fun H0 _ => (h H0).det⟩⟩⟩, h2⟩
theorem DRun_det4 (r : AV) (hg : agd ops fr o = some true) (h : ∀ H0 : Mem, J H0 → OpS P o fr H0 (Det r H0)) (h2 : DRun P J T ops cs rest (fr.put o.dst r) B H K) : DRun P J T ops (0 :: cs) (o :: rest) fr B H K :=
 ⟨r, H, ⟨fun _ => rfl, fun _ => List.prefix_refl _, .inl rfl, .inl ⟨hg, .inl ⟨rfl, fun H0 hJ => (h H0 hJ).det⟩⟩⟩, h2⟩
theorem DRun_det1 (r : AV) (hg : agd ops fr o = some true) (h : ∀ H0 : Mem, B <+: H0 → OpS P o fr H0 (Det r H0)) (h2 : DRun P J T ops cs rest (fr.put o.dst r) B H K) : DRun P J T ops (1 :: cs) (o :: rest) fr B H K :=
 ⟨r, H, ⟨fun _ => rfl, fun _ => List.prefix_refl _, .inl rfl, .inl ⟨hg, .inr (.inl ⟨rfl, fun H0 hB => (h H0 hB).det⟩)⟩⟩, h2⟩
theorem DRun_det2 (r : AV) (H1 : Mem) (hg : agd ops fr o = some true) (h : OpS P o fr H (Det r H1)) (hJ : J H1) (h2 : DRun P J T ops cs rest (fr.put o.dst r) H1 H1 K) : DRun P J T ops (2 :: cs) (o :: rest) fr B H K :=
 ⟨r, H1, ⟨fun h => by simp at h, fun h => absurd rfl h, .inr (.inl hJ), .inl ⟨hg, .inr (.inr ⟨by simp, h.det⟩)⟩⟩, h2⟩
theorem DRun_det3 (r : AV) (H1 : Mem) (hg : agd ops fr o = some true) (h : OpS P o fr H (Det r H1)) (hp : H <+: H1) (hJ : J H1) (h2 : DRun P J T ops cs rest (fr.put o.dst r) B H1 K) : DRun P J T ops (3 :: cs) (o :: rest) fr B H K :=
 ⟨r, H1, ⟨fun h => by simp at h, fun _ => hp, .inr (.inl hJ), .inl ⟨hg, .inr (.inr ⟨by simp, h.det⟩)⟩⟩, h2⟩
theorem DRun_skipN {c : Nat} (hc : c ≠ 2) (hg : agd ops fr o = some false) (h : DRun P J T ops cs rest (fr.put o.dst undefA) B H K) : DRun P J T ops (c :: cs) (o :: rest) fr B H K :=
 ⟨undefA, H, ⟨fun _ => rfl, fun _ => List.prefix_refl _, .inl rfl, .inr ⟨hg, rfl, rfl⟩⟩, by rw [List.headD_cons, if_neg hc]; exact h⟩
theorem DRun_test0 {b : Bool} (hg : agd ops fr o = some true) (h : ∀ H0 : Mem, OpS P o fr H0 (Det (.sc (.bool b)) H0)) (h1 : b = true → DRun P J T ops cs rest (fr.put o.dst (.sc (.bool true))) B H K)
  (h2 : b = false → DRun P J T ops cs rest (fr.put o.dst (.sc (.bool false))) B H K) : DRun P J T ops (0 :: cs) (o :: rest) fr B H K := by
 refine DRun_det0 (.sc (.bool b)) hg h ?_
 cases b
 ·exact h2 rfl
 ·exact h1 rfl
end
theorem AVLe.trans {a b c : AV} (h : AVLe a b) (h' : AVLe b c) : AVLe a c := fun g n v hv => h' g n v (h g n v hv)
theorem AVLe.any (a : AV) : AVLe a .any := fun _ _ _ _ => .any _
theorem AVLe.agg {cs cs' : List AV} (h : ALe cs cs') : AVLe (.ag cs) (.ag cs') := fun g n v hv => by
 obtain ⟨h1, h2⟩ := h.get
 cases hv with
 | ag _ vs hs hx => exact .ag cs' vs (hs.trans h1) fun i c hc => by obtain ⟨c0, e0, l0⟩ := h2 i c hc; exact l0 _ _ _ (hx i c0 e0)
theorem ALe.refl : ∀ l, ALe l l
 | [] => trivial
 | _ :: r => ⟨.refl _, ALe.refl r⟩
theorem ELe.refl : ∀ l, ELe l l
 | [] => trivial
 | _ :: r => ⟨.refl _, ELe.refl r⟩
def FlL (fr : Frm) : List (Nat × AV) → Prop
 | [] => True
 | (d, v) :: r => AVLe (fr d) v ∧ FlL fr r
theorem Reb.fl {N n0 : Nat} {fr : Frm} {H : Mem} {l : List (Nat × AV)} (h : FlL fr l) : Reb N n0 fr (Frm.of l) H H := fun g w tmps hn hf hm => by
 refine ⟨g, ⟨hf.size, fun t => ?_⟩, hm, .refl _ _ _, hn⟩
 induction l with
 | nil => exact .any _
 | cons p r ih =>
  obtain ⟨d, v⟩ := p
  by_cases e : t = d
  ·subst e
   simp only [Frm.of, if_true]
   exact h.1 _ _ _ (hf.vr t)
  ·simp only [Frm.of, if_neg e]
   exact ih h.2
def AVLt (n : Nat) (a a' : AV) : Prop := ∀ g m v, n < m → VR g m a v → VR g m a' v
theorem AVLt.of {n : Nat} {a a' : AV} (h : AVLe a a') : AVLt n a a' := fun g m v _ hv => h g m v hv
theorem AVLt.nil (n z : Nat) : AVLt n (.sc (.slice none 0 0)) (.sl z [] (.tk n)) := fun _ _ _ hn h => by cases h; exact .nil z _ fun t e => by cases e; exact hn
theorem AVLt.ex (n z : Nat) (es : List (List PV)) : AVLt n (.sl z es .ex) (.sl z es (.tk n)) := fun _ _ _ hn h => by
 cases h with
 | nil z => exact .nil z _ fun t e => by cases e; exact hn
 | sl z es k a cap f h1 h2 h3 h4 h5 => exact .sl z es _ a cap f h1 h2 h3 h4 ⟨hn, .inl h5⟩
def FtL (n : Nat) (fr : Frm) : List (Nat × AV) → Prop
 | [] => True
 | (d, v) :: r => AVLt n (fr d) v ∧ FtL n fr r
theorem MR.le {g : Gh} {H : Mem} {w : World} {id : Nat} {cs cs' : List AV} (hm : MR g H w) (hid : H[id]? = some (.cells cs)) (hl : ALe cs cs') : MR g (H.set id (.cells cs')) w := by
 obtain ⟨q1, q2⟩ := hl.get
 have hlen : (H.set id (Ent.cells cs')).length = H.length := by simp
 refine ⟨hm.ro, fun id' e he => ?_, fun b i hb => by rw [hlen]; exact hm.ow b i hb⟩
 rw [hlen]
 rcases get_set he with ⟨hne, he⟩ | ⟨rfl, rfl, _⟩
 ·exact hm.ent id' e he
 ·rcases hm.ent _ _ hid with ⟨e1, e2⟩ | ⟨h1, h2, h3, h4, h5⟩
  ·exact .inl ⟨List.eq_nil_of_length_eq_zero (by rw [← q1, e1]; rfl), e2⟩
  refine .inr ⟨h1, h2, by rw [← q1]; exact h3, h4, fun k c hc => ?_⟩
  obtain ⟨c0, e0, l0⟩ := q2 k c hc
  obtain ⟨v, hv, hvr⟩ := h5 k c0 e0
  exact ⟨v, hv, l0 _ _ _ hvr⟩
def ALt (n : Nat) : List AV → List AV → Prop
 | [], [] => True
 | a :: r, a' :: r' => AVLt n a a' ∧ ALt n r r'
 | _, _ => False
theorem ALt.get {n : Nat} : ∀ {l l' : List AV}, ALt n l l' → l'.length = l.length ∧ ∀ (i : Nat) c', l'[i]? = some c' → ∃ c, l[i]? = some c ∧ AVLt n c c'
 | [], [], _ => ⟨rfl, fun i c h => by simp at h⟩
 | a :: r, a' :: r', h => by
  obtain ⟨h1, h2⟩ := ALt.get h.2
  refine ⟨by simp [h1], fun i c hc => ?_⟩
  cases i with
  | zero => simp at hc; subst hc; exact ⟨a, rfl, h.1⟩
  | succ i => simp only [List.getElem?_cons_succ] at hc ⊢; exact h2 i c hc
 | [], _ :: _, h => h.elim
 | _ :: _, [], h => h.elim
theorem Reb.mem {N n0 : Nat} {fr : Frm} {H : Mem} {id : Nat} {cs cs' : List AV} (hid : H[id]? = some (.cells cs)) (hl : ALe cs cs') : Reb N n0 fr fr H (H.set id (.cells cs')) := fun g w tmps hn hf hm =>
 ⟨g, by rw [List.length_set]; exact hf, hm.le hid hl, .refl _ _ _, by rw [List.length_set]; exact hn⟩
section
variable {P : Program} {N n0 : Nat} {fr : Frm} {H : Mem} {Q : Exit → Frm → Mem → Prop}
theorem aw_loopD {S T G : Type} {body : Code} {b : S → Option (Ctl T S)} {n : Nat} {s0 : S} {t : T} (hl : loopN b n s0 = some t) (F : S → G → Frm) (I : S → G → Mem → Prop) (g0 : G) {H1 : Mem} (hI : I s0 g0 H1)
  (hR : Reb N n0 fr (F s0 g0) H H1)
  (step : ∀ s g M c, I s g M → b s = some c → (∀ t', c = .ret t' → t' = t) → aw P N n0 body (F s g) M (thenQ (fun fr' M' => ∃ s' g' M'', c = .go s' ∧ I s' g' M'' ∧ Reb N n0 fr' (F s' g') M' M'') Q)) :
  aw P N n0 (.loop body) fr H Q := by
 refine aw_reb hR ?_
 refine aw_loop (fun k fr' M' => ∃ s g, loopN b k s = some t ∧ fr' = F s g ∧ I s g M') (k := n) ⟨s0, g0, hl, rfl, hI⟩ ?_
 rintro k fr' M' ⟨s, g, hk, rfl, hi⟩
 cases k with
 | zero => cases hk
 | succ k =>
  simp only [loopN] at hk
  cases hb : b s with
  | none => rw [hb] at hk; cases hk
  | some c =>
   refine aw.conseq (fun e fr2 M2 q => ?_) (step s g M' c hi hb fun t' e => by rw [hb, e] at hk; simpa using hk)
   cases e with
   | normal =>
    obtain ⟨s', g', M'', rfl, i2, r2⟩ := q
    rw [hb] at hk
    exact ⟨_, _, r2, k, Nat.lt_succ_self k, s', g', hk, rfl, i2⟩
   | _ => exact ⟨_, _, .refl, q⟩
theorem aw_joinS {S G : Type} {x y : Code} (s : S) (F : S → G → Frm) (I : S → G → Mem → Prop)
  (h : aw P N n0 x fr H (thenQ (fun fr' M' => ∃ g M'', I s g M'' ∧ Reb N n0 fr' (F s g) M' M'') Q)) (h2 : ∀ g M, I s g M → aw P N n0 y (F s g) M Q) : aw P N n0 (.seq x y) fr H Q :=
 aw_seq (aw.conseq (fun e fr' H' q => by
  cases e with
  | normal =>
   obtain ⟨g, M'', i1, r1⟩ := q
   exact ⟨_, _, r1, h2 g M'' i1⟩
  | _ => exact ⟨_, _, .refl, q⟩) h)
end
section
variable {P : Program} {N n0 : Nat} {fr : Frm} {H : Mem} {Q : Exit → Frm → Mem → Prop}
theorem aw_tailD {S E G : Type} {x : Code} (c : Ctl E S) (F : S → G → Frm) (I : S → G → Mem → Prop)
  (h : aw P N n0 x fr H (thenQ (fun fr' M' => ∃ s g M'', c = .go s ∧ I s g M'' ∧ Reb N n0 fr' (F s g) M' M'') Q)) (h2 : ∀ s g M, c = .go s → I s g M → Q .normal (F s g) M) : aw P N n0 x fr H Q :=
 aw.conseq (fun e fr' H' q => by
  cases e with
  | normal =>
   obtain ⟨s, g, M'', e1, i1, r1⟩ := q
   exact ⟨_, _, r1, h2 s g M'' e1 i1⟩
  | _ => exact ⟨_, _, .refl, q⟩) h
theorem aw_tailS {S G : Type} {x : Code} (s : S) (F : S → G → Frm) (I : S → G → Mem → Prop)
  (h : aw P N n0 x fr H (thenQ (fun fr' M' => ∃ g M'', I s g M'' ∧ Reb N n0 fr' (F s g) M' M'') Q)) (h2 : ∀ g M, I s g M → Q .normal (F s g) M) : aw P N n0 x fr H Q :=
 aw.conseq (fun e fr' H' q => by
  cases e with
  | normal =>
   obtain ⟨g, M'', i1, r1⟩ := q
   exact ⟨_, _, r1, h2 g M'' i1⟩
  | _ => exact ⟨_, _, .refl, q⟩) h
end
section
variable {A M : Mem} {i j : Nat} {x y : Ent}
theorem get_app {tl : Mem} (h : M[i]? = some x) : (M ++ tl)[i]? = some x := by rw [List.getElem?_append_left (lt_of_get h)]; exact h
theorem get_new : (M ++ [x])[M.length]? = some x := by simp
theorem get_new2 {y : Ent} : (M.set i y ++ [x])[M.length]? = some x := by
 have q := get_new (M := M.set i y) (x := x)
 rw [List.length_set] at q; exact q
theorem get_self (h : M[i]? = some y) : (M.set i x)[i]? = some x := by rw [List.getElem?_set_self (lt_of_get h)]
theorem get_ne (hne : i ≠ j) (h : M[i]? = some x) : (M.set j y)[i]? = some x := by rw [List.getElem?_set_ne (Ne.symm hne)]; exact h
theorem pre_app {tl : Mem} (h : A <+: M) : A <+: M ++ tl := h.trans (List.prefix_append _ _)
theorem pre_get (h : A <+: M) (hi : A[i]? = some x) : M[i]? = some x := by
 obtain ⟨tl, rfl⟩ := h
 exact get_app hi
theorem pre_hi (h : A <+: M) (hi : A.length ≤ i) : A <+: M.set i x := by
 obtain ⟨tl, rfl⟩ := h
 rw [List.set_append_right _ _ hi]
 exact List.prefix_append _ _
theorem pre_lo (h : A <+: M) (hi : i < A.length) : A.set i x <+: M.set i x := by
 obtain ⟨tl, rfl⟩ := h
 rw [List.set_append_left _ _ hi]
 exact List.prefix_append _ _
theorem mset_same (h : M[i]? = some x) : M.set i x = M := by
 apply List.ext_getElem?
 intro k
 by_cases e : i = k
 ·subst e; rw [get_self h, h]
 ·rw [List.getElem?_set_ne e]
theorem pre_set (h : M[i]? = some x) : M.set i x <+: M := by rw [mset_same h]; exact List.prefix_refl _
theorem tok_ne {cs : List AV} (h : M[i]? = some (.cells cs)) (h2 : M[j]? = some .tok) : i ≠ j := by
 rintro rfl
 rw [h] at h2; cases h2
theorem pre_len (h : A <+: M) : A.length ≤ M.length := h.length_le
end
def AV.clo1 : AV → Bool
 | .any | .sc _ | .sl _ _ .no | .sl _ _ .ex | .ep _ => true
 | _ => false
def AV.clo2 : AV → Bool
 | .ag cs => cs.all AV.clo1
 | a => a.clo1
def AV.clo : AV → Bool
 | .tp cs => cs.all AV.clo2
 | a => a.clo2
theorem AV.clo1_bd {n : Nat} {a : AV} (h : a.clo1 = true) : Bd n a := by
 unfold AV.clo1 at h
 split at h
 ·exact .any
 ·exact .sc _
 ·exact .sl _ _ _ fun t e => by cases e
 ·exact .sl _ _ _ fun t e => by cases e
 ·exact .ep _
 ·cases h
theorem AV.clo2_bd {n : Nat} {a : AV} (h : a.clo2 = true) : Bd n a := by
 unfold AV.clo2 at h
 split at h
 ·exact .ag _ fun i c hc => clo1_bd (List.all_eq_true.1 h c (List.mem_of_getElem? hc))
 ·exact clo1_bd h
theorem AV.clo_bd {n : Nat} {a : AV} (h : a.clo = true) : Bd n a := by
 unfold AV.clo at h
 split at h
 ·exact .tp _ fun i c hc => clo2_bd (List.all_eq_true.1 h c (List.mem_of_getElem? hc))
 ·exact clo2_bd h
theorem MBd.set {H : Mem} {p : Nat} {cs : List AV} (hH : MBd H) (hc : cs.all AV.clo1 = true) : MBd (H.set p (.cells cs)) := fun id e he => by
 rw [List.length_set]
 rcases get_set he with ⟨_, he⟩ | ⟨rfl, rfl, _⟩
 ·exact hH id e he
 ·exact fun i c hc' => AV.clo1_bd (List.all_eq_true.1 hc c (List.mem_of_getElem? hc'))
theorem ACalls.done {P : Program} {f : FuncId} {args : List AV} {H H1 : Mem} {r0 : AV} (hn : H.length ≤ H1.length) (hB : MBd H → MBd H1) (hb : Bd H1.length r0)
  (h : ACalls P f args H fun r M => AVLe r r0 ∧ H1 <+: M) : ACalls P f args H fun r M => r = r0 ∧ M = H1 := by
 refine ⟨h.1, fun g w vals hm hs hv => (h.2 g w vals hm hs hv).mono ?_⟩
 rintro e w' ⟨v, he, s⟩
 refine ⟨v, he, SR.trim (R := fun r M => r = r0 ∧ H1 <+: M) (s.mono' fun r' H' g' v' ⟨k1, k2⟩ hv' => ⟨r0, ⟨rfl, k2⟩, k1 _ _ _ hv'⟩) ?_⟩
 rintro r H' ⟨rfl, tl, rfl⟩
 exact ⟨H1, tl, rfl, hn, hB fun id e he => (hm.ent id e he).bd, hb, rfl, rfl⟩
theorem ACalls.done0 {P : Program} {f : FuncId} {args : List AV} {H : Mem} {r0 : AV} (hb : r0.clo = true)
  (h : ACalls P f args H fun r M => AVLe r r0 ∧ H <+: M) : ACalls P f args H fun r M => r = r0 ∧ M = H := ACalls.done (Nat.le_refl _) id (AV.clo_bd hb) h
end Go.Proofs.Ytpkcdabbijaklaa.Am
namespace Go.Proofs.Ytpkcdabbijaklaa.Am
open Go
set_option linter.unusedVariables false
section
variable {P : Program} {fr : Frm} {H : Mem} {dst : Option Nat} {ty : TypeId} {pos : String} {after : Array Edge} {guard : Option (Nat × Bool)}
theorem o_move {x : Operand} {r : AV} (h : AVLe (aev fr x) r) : OpS P ⟨dst, .move x, ty, pos, after, guard⟩ fr H (Det r H) := opS_move ⟨h, rfl⟩
theorem o_assign {x : Operand} {r : AV} (h : AVLe (aev fr x) r) : OpS P ⟨dst, .assign x, ty, pos, after, guard⟩ fr H (Det r H) := opS_assign ⟨h, rfl⟩
theorem o_pick {c x y : Operand} {b : Bool} {r : AV} (hc : aev fr c = .sc (.bool b)) (h : AVLe (if b then aev fr x else aev fr y) r) : OpS P ⟨dst, .pick c x y, ty, pos, after, guard⟩ fr H (Det r H) := opS_pick hc ⟨h, rfl⟩
theorem o_bin {op : BinOp} {t t' : TypeId} {x y : Operand} {v : Value} (hv : aBin P op t (aev fr x) (aev fr y) = some v) : OpS P ⟨dst, .binOp op t x y t', ty, pos, after, guard⟩ fr H (Det (.sc v) H) := opS_binOp hv ⟨.refl _, rfl⟩
theorem o_int {op : BinOp} {t t' : TypeId} {x y : Operand} {k : IntKind} {a b : Int} {v : Value} (hx : aev fr x = .sc (.int k a)) (hy : aev fr y = .sc (.int k b)) (ho : (match op with | .shl | .shr => false | _ => true) = true)
  (hv : intBin op k a b = some v) : OpS P ⟨dst, .binOp op t x y t', ty, pos, after, guard⟩ fr H (Det (.sc v) H) := o_bin (by
 rw [hx, hy]
 cases op <;> first | exact absurd ho (by decide) | simpa [aBin] using hv)
theorem o_shr {t t' : TypeId} {x y : Operand} {k k' : IntKind} {a b : Int} {n : Nat} (hx : aev fr x = .sc (.int k a)) (hy : aev fr y = .sc (.int k' b)) (hn : cnt k b = some n) :
  OpS P ⟨dst, .binOp .shr t x y t', ty, pos, after, guard⟩ fr H (Det (.sc (.int k (shrI a n))) H) := o_bin (by
 obtain ⟨h0, rfl⟩ := cnt_some hn
 rw [hx, hy]
 simp only [aBin, if_pos h0, shrI])
theorem o_str {op : BinOp} {t t' : TypeId} {x y : Operand} {a b : List UInt8} {v : Value} (hx : aev fr x = .sc (.string ⟨a.toArray⟩)) (hy : aev fr y = .sc (.string ⟨b.toArray⟩)) (hv : strBin op ⟨a.toArray⟩ ⟨b.toArray⟩ = some v) :
  OpS P ⟨dst, .binOp op t x y t', ty, pos, after, guard⟩ fr H (Det (.sc v) H) := o_bin (by rw [hx, hy]; exact hv)
theorem o_eqS {t t' : TypeId} {x y : Operand} {a b : List UInt8} (hx : aev fr x = .sc (.string ⟨a.toArray⟩)) (hy : aev fr y = .sc (.string ⟨b.toArray⟩)) :
  OpS P ⟨dst, .binOp .eql t x y t', ty, pos, after, guard⟩ fr H (Det (.sc (.bool (a == b))) H) := o_str hx hy (by simp [strBin])
theorem o_neS {t t' : TypeId} {x y : Operand} {a b : List UInt8} (hx : aev fr x = .sc (.string ⟨a.toArray⟩)) (hy : aev fr y = .sc (.string ⟨b.toArray⟩)) :
  OpS P ⟨dst, .binOp .neq t x y t', ty, pos, after, guard⟩ fr H (Det (.sc (.bool (a != b))) H) := o_str hx hy (by simp [strBin, bne])
theorem o_nilSl {op : BinOp} {t t' e : TypeId} {x y : Operand} {b : Bool} {v : Value} (hu : P.underlying t = some (.slice e)) (hx : twoNil (nilSl (aev fr x)) (nilSl (aev fr y)) = some b)
  (hs : (match aev fr x, aev fr y with | .sc (.int _ _), .sc (.int _ _) => false | .sc (.string _), .sc (.string _) => false | _, _ => true) = true)
  (hv : (match op with | .eql => some (Value.bool b) | .neq => some (.bool (!b)) | _ => none) = some v) : OpS P ⟨dst, .binOp op t x y t', ty, pos, after, guard⟩ fr H (Det (.sc v) H) := o_bin (by
 unfold aBin
 split
 ·rename_i h1 h2; simp only [h1, h2] at hs; cases hs
 ·rename_i h1 h2; simp only [h1, h2] at hs; cases hs
 ·cases op <;> simp only [aEq, hu, hx] at hv ⊢ <;> first | exact hv | cases hv)
theorem o_nilPt {op : BinOp} {t t' e : TypeId} {x y : Operand} {b : Bool} {v : Value} (hu : P.underlying t = some (.pointer e)) (hx : twoNil (nilPt (aev fr x)) (nilPt (aev fr y)) = some b)
  (hs : (match aev fr x, aev fr y with | .sc (.int _ _), .sc (.int _ _) => false | .sc (.string _), .sc (.string _) => false | _, _ => true) = true)
  (hv : (match op with | .eql => some (Value.bool b) | .neq => some (.bool (!b)) | _ => none) = some v) : OpS P ⟨dst, .binOp op t x y t', ty, pos, after, guard⟩ fr H (Det (.sc v) H) := o_bin (by
 unfold aBin
 split
 ·rename_i h1 h2; simp only [h1, h2] at hs; cases hs
 ·rename_i h1 h2; simp only [h1, h2] at hs; cases hs
 ·cases op <;> simp only [aEq, hu, hx] at hv ⊢ <;> first | exact hv | cases hv)
theorem all_c_u8 (l : List Int) : ((l.map c_u8).all fun e => (byteOf e).isSome) = true := by
 rw [List.all_map, List.all_eq_true]
 intro x _
 rfl
theorem bytesOf_c_u8 (l : List Int) : bytesOf (l.map c_u8) = ⟨(strOf l).toArray⟩ := by
 unfold bytesOf strOf
 rw [List.filterMap_map]
 have : (byteOf ∘ c_u8) = fun n => some (u8 n) := funext fun _ => rfl
 rw [this]
 congr 2
 induction l with
 | nil => rfl
 | cons x l ih => simp [ih]
theorem o_convS {s d e : TypeId} {x : Operand} {l : List Int} {k : Tk} (hs : P.underlying s = some (.slice e)) (he : P.underlying e = some (.int .u8)) (hd : P.underlying d = some .string) (hx : aev fr x = .sl 1 (l.map c_u8) k) :
  OpS P ⟨dst, .convert s d x, ty, pos, after, guard⟩ fr H (Det (.sc (.string ⟨(strOf l).toArray⟩)) H) := opS_convert (v := .string ⟨(strOf l).toArray⟩) (by simp only [aConv, hs, hd, hx, he, if_true, all_c_u8, bytesOf_c_u8]) ⟨.refl _, rfl⟩
theorem o_alloc {t : TypeId} {s b : Nat} {z : Value} {H1 : Mem} (ht : tinf P t = some (s, b, some z)) (hM : H1 = H ++ [.cells (zeroCs z)]) : OpS P ⟨dst, .alloc t, ty, pos, after, guard⟩ fr H (Det (.pt H.length 0) H1) := opS_alloc ht ⟨.refl _, hM.symm⟩
theorem o_box {t : TypeId} {x : Operand} {H1 : Mem} (hf : (aev fr x).flat = true) (hM : H1 = H ++ [.cells (aev fr x).cells]) : OpS P ⟨dst, .box t x, ty, pos, after, guard⟩ fr H (Det (.pt H.length 0) H1) := opS_box hf ⟨.refl _, hM.symm⟩
theorem o_extract {x : Operand} {i : Nat} {vs : List AV} {a : AV} (hx : aev fr x = .tp vs) (ha : vs[i]? = some a) : OpS P ⟨dst, .extract x i, ty, pos, after, guard⟩ fr H (Det a H) := opS_extract hx ha ⟨.refl _, rfl⟩
theorem o_nilCheck {x : Operand} {r : AV} (ht : (aev fr x).there = true) (h : AVLe (aev fr x) r) : OpS P ⟨dst, .nilCheck x, ty, pos, after, guard⟩ fr H (Det r H) := opS_nilCheck ht ⟨h, rfl⟩
theorem o_loadE {t : TypeId} {x : Operand} {q : Nat × Nat × Option Value} {p : PV} {ps : List PV} {r : AV} (hag : aggT P t = some false) (hti : tinf P t = some q) (hx : aev fr x = .ep (p :: ps)) (h : AVLe p.av r) :
  OpS P ⟨dst, .load t x, ty, pos, after, guard⟩ fr H (Det r H) := opS_load (by simp only [aLoad, hag, hti, hx]; exact ⟨h, rfl⟩)
theorem o_loadEA {t : TypeId} {x : Operand} {s b : Nat} {z : Option Value} {cs : List PV} {r : AV} (hag : aggT P t = some true) (hti : tinf P t = some (s, b, z)) (hx : aev fr x = .ep cs) (hl : s ≤ cs.length)
  (h : AVLe (.ag ((cs.take s).map PV.av)) r) : OpS P ⟨dst, .load t x, ty, pos, after, guard⟩ fr H (Det r H) := opS_load (by simp only [aLoad, hag, hti, hx]; exact ⟨hl, h, rfl⟩)
theorem o_loadP {t : TypeId} {x : Operand} {q : Nat × Nat × Option Value} {id off : Nat} {cs : List AV} {c r : AV} (hag : aggT P t = some false) (hti : tinf P t = some q) (hx : aev fr x = .pt id off) (hm : H[id]? = some (.cells cs))
  (hc : cs[off]? = some c) (h : AVLe c r) : OpS P ⟨dst, .load t x, ty, pos, after, guard⟩ fr H (Det r H) := opS_load (by simp only [aLoad, hag, hti, hx, hm, hc]; exact ⟨h, rfl⟩)
theorem o_store {t : TypeId} {x y : Operand} {s b : Nat} {z : Option Value} {id off : Nat} {cs cs' : List AV} {v : AV} {H1 : Mem} (hti : tinf P t = some (s, b, z)) (hx : aev fr x = .pt id off) (hy : aev fr y = v) (hm : H[id]? = some (.cells cs))
  (h0 : s ≠ 0) (hf : v.flat = true) (hs : v.cells.length = s) (hc : v.cells.all AV.cellish = true) (hl : off + s ≤ cs.length) (he : setAt cs off v.cells = cs') (hM : H1 = H.set id (.cells cs')) :
  OpS P ⟨dst, .store t x y, ty, pos, after, guard⟩ fr H (Det undefA H1) := opS_store (by
 subst hy he
 simp only [aStore, hti, hx, hm]
 exact ⟨h0, hf, hs, hc, hl, .refl _, hM.symm⟩)
theorem o_fieldAddrP {s ft fo : Nat} {x : Operand} {i : Nat} {fs : Array Field} {sz b : Nat} {z : Option Value} {id off : Nat} (hu : P.underlying s = some (.struct fs)) (hf : (fs[i]?).map (fun f => (f.type, f.offset)) = some (ft, fo)) (ht : tinf P ft = some (sz, b, z)) (hq : sz ≠ 0)
  (hx : aev fr x = .pt id off) : OpS P ⟨dst, .fieldAddr s x i, ty, pos, after, guard⟩ fr H (Det (.pt id (off + fo)) H) := opS_fieldAddr (by
 cases hf' : fs[i]? with
 | none => rw [hf'] at hf; cases hf
 | some f =>
  rw [hf'] at hf
  cases hf
  simp only [aFieldAddr, hu, hf', ht, hx]
  exact ⟨hq, .refl _, rfl⟩)
section
variable {α : Type} {c : α → List PV}
theorem map_idx {l : List α} {i : Int} {a : α} (h : idx l i = some a) : 0 ≤ i ∧ (l.map c)[i.toNat]? = some (c a) := by
 obtain ⟨h0, h1⟩ := idx_some h
 exact ⟨h0, by rw [List.getElem?_map, h1]; rfl⟩
theorem o_indexAddr {t e : TypeId} {x y : Operand} {s b : Nat} {z : Option Value} {l : List α} {k : Tk} {kk : IntKind} {i : Int} {a : α} (hu : P.underlying t = some (.slice e)) (hti : tinf P e = some (s, b, z)) (hx : aev fr x = .sl s (l.map c) k)
  (hy : aev fr y = .sc (.int kk i)) (hi : idx l i = some a) : OpS P ⟨dst, .indexAddr t x y, ty, pos, after, guard⟩ fr H (Det (.ep (c a)) H) := opS_indexAddr (by
 obtain ⟨h0, h1⟩ := map_idx (c := c) hi
 simp only [aIndexAddr, hu, hti, hx, hy, h1]
 exact ⟨trivial, h0, .refl _, rfl⟩)
theorem o_lenL {t e : TypeId} {x : Operand} {z : Nat} {l : List α} {k : Tk} (hu : P.underlying t = some (.slice e)) (hx : aev fr x = .sl z (l.map c) k) :
  OpS P ⟨dst, .call ⟨.builtin .len, #[x], #[t]⟩, ty, pos, after, guard⟩ fr H (Det (.sc (.int .i64 l.length)) H) := opS_len (n := l.length) (by simp only [aLen, hu, hx, List.length_map]) ⟨.refl _, rfl⟩
theorem o_max {ats : Array TypeId} {x y : Operand} {k : IntKind} {a b : Int} (hx : aev fr x = .sc (.int k a)) (hy : aev fr y = .sc (.int k b)) : OpS P ⟨dst, .call ⟨.builtin .max, #[x, y], ats⟩, ty, pos, after, guard⟩ fr H (Det (.sc (.int k (maxI a b))) H) :=
 opS_max (v := .int k (maxI a b)) (by rw [hx, hy]; rfl) ⟨.refl _, rfl⟩
theorem o_min {ats : Array TypeId} {x y : Operand} {k : IntKind} {a b : Int} (hx : aev fr x = .sc (.int k a)) (hy : aev fr y = .sc (.int k b)) : OpS P ⟨dst, .call ⟨.builtin .min, #[x, y], ats⟩, ty, pos, after, guard⟩ fr H (Det (.sc (.int k (minI a b))) H) :=
 opS_min (v := .int k (minI a b)) (by rw [hx, hy]; rfl) ⟨.refl _, rfl⟩
theorem o_slice {t e : TypeId} {x : Operand} {lo hi mx : Option Operand} {s b : Nat} {z : Option Value} {l m : List α} {k : Tk} {lo' hi' mx' : Option (IntKind × Int)} (hu : P.underlying t = some (.slice e)) (hti : tinf P e = some (s, b, z))
  (hx : aev fr x = .sl s (l.map c) k) (hl : bnd fr lo = some lo') (hh : bnd fr hi = some hi') (hmx : bnd fr mx = some mx') (hs : slc l (bd0 lo' 0) (bd0 hi' l.length) = some m)
  (hm : mx'.isSome = true → hi'.isSome = true ∧ bd0 hi' l.length = bd0 mx' l.length) : OpS P ⟨dst, .slice t x lo hi mx, ty, pos, after, guard⟩ fr H (Det (.sl s (m.map c) (tkS k hi' mx' l.length)) H) := by
 obtain ⟨h0, h1, h2, rfl⟩ := slc_some hs
 refine opS_slice hl hh hmx ?_
 refine ⟨fun h => (hm h).1, ?_⟩
 simp only [hu, hti, hx, List.length_map, true_and]
 have e1 : bd0 hi' (l.length : Int) ≤ bd0 mx' (l.length : Int) ∧ bd0 mx' (l.length : Int) ≤ l.length := by
  cases mx' with
  | none => exact ⟨h2, Int.le_refl _⟩
  | some q => have := (hm rfl).2; omega
 refine ⟨h0, h1, e1.1, e1.2, ?_, rfl⟩
 rw [List.map_drop, List.map_take]
 exact .refl _
theorem o_app1 {t u e : TypeId} {x y : Operand} {s b : Nat} {z : Value} {l l2 m : List α} {H1 : Mem} (hx : aev fr x = .sl s (l.map c) .ex ∨ (aev fr x = .sc (.slice none 0 0) ∧ l = [])) (hy : srcP s (aev fr y) H = some (l2.map c))
  (hu : P.underlying t = some (.slice e)) (hti : tinf P e = some (s, b, some z)) (hz : (zeroCs z).length = s) (hss : sliceStr P u = true) (happ : app b l l2 = some m) (hM : H1 = H ++ [.tok]) :
  OpS P ⟨dst, .call ⟨.builtin .append, #[x, y], #[t, u]⟩, ty, pos, after, guard⟩ fr H (Det (.sl s (m.map c) (.tk H.length)) H1) := by
 obtain ⟨h1, h2, rfl⟩ := app_some happ
 refine opS_append 1 ⟨hss, ?_⟩
 simp only [hu, hti, hy]
 refine ⟨hz, ?_⟩
 rcases hx with hx | ⟨hx, rfl⟩
 ·simp only [hx, List.length_map]
  refine ⟨trivial, h1, h2, fun h => by omega, ?_, hM.symm⟩
  rw [List.map_append]; exact .refl _
 ·simp only [hx, List.length_map]
  simp only [List.length_nil, Nat.zero_add] at h1 h2
  exact ⟨h1, h2, .refl _, hM.symm⟩
theorem o_appT {t u e : TypeId} {x y : Operand} {s b tk : Nat} {z : Value} {l l2 m : List α} {H1 : Mem} (hx : aev fr x = .sl s (l.map c) (.tk tk)) (hk : H[tk]? = some .tok) (hy : srcP s (aev fr y) H = some (l2.map c))
  (hu : P.underlying t = some (.slice e)) (hti : tinf P e = some (s, b, some z)) (hz : (zeroCs z).length = s) (hss : sliceStr P u = true) (happ : app b l l2 = some m) (hM : H1 = H.set tk .dead ++ [.tok]) :
  OpS P ⟨dst, .call ⟨.builtin .append, #[x, y], #[t, u]⟩, ty, pos, after, guard⟩ fr H (Det (.sl s (m.map c) (.tk H.length)) H1) := by
 obtain ⟨h1, h2, rfl⟩ := app_some happ
 refine opS_append 1 ⟨hss, ?_⟩
 simp only [hu, hti, hy, hx, List.length_map]
 refine ⟨hz, trivial, hk, h1, h2, ?_, hM.symm⟩
 rw [List.map_append]; exact .refl _
theorem o_app2 {t u e : TypeId} {x y : Operand} {s b : Nat} {z : Value} {l2 m : List α} {H1 : Mem} (hx : aev fr x = .sl s [] .ex ∨ aev fr x = .sc (.slice none 0 0)) (hy : srcP s (aev fr y) H = some (l2.map c))
  (hu : P.underlying t = some (.slice e)) (hti : tinf P e = some (s, b, some z)) (hz : (zeroCs z).length = s) (hss : sliceStr P u = true) (happ : app b [] l2 = some m) (hM : H1 = H ++ [.cells ((m.map c).flatten.map PV.av)]) :
  OpS P ⟨dst, .call ⟨.builtin .append, #[x, y], #[t, u]⟩, ty, pos, after, guard⟩ fr H (Det (.hs H.length 0 m.length m.length s) H1) := by
 obtain ⟨h1, h2, rfl⟩ := app_some happ
 simp only [List.length_nil, Nat.zero_add] at h1 h2
 refine opS_append 2 ⟨hss, ?_⟩
 simp only [hu, hti, hy]
 refine ⟨hz, ?_⟩
 have key : aFresh 2 s (m.map c) H (Det (.hs H.length 0 m.length m.length s) H1) := by
  show Det _ H1 (.hs H.length 0 (m.map c).length (m.map c).length s) (H ++ [.cells ((m.map c).flatten.map PV.av)])
  rw [List.length_map]
  exact ⟨.refl _, hM.symm⟩
 rcases hx with hx | hx
 ·simp only [hx, List.length_map, List.length_nil, Nat.zero_add]
  exact ⟨trivial, h1, h2, fun h => .inr trivial, key⟩
 ·simp only [hx, List.length_map]
  exact ⟨h1, h2, key⟩
theorem src_sl {s : Nat} {l : List α} {k : Tk} {x : AV} (h : x = .sl s (l.map c) k) : srcP s x H = some (l.map c) := by subst h; simp only [srcP, if_true]
theorem o_make0 {t e : TypeId} {x y : Operand} {s b : Nat} {z : Value} {k1 k2 : IntKind} {n : Int} {a : α} {m : List α} (hu : P.underlying t = some (.slice e)) (hti : tinf P e = some (s, b, some z)) (hz : (zeroCs z).length = s)
  (hx : aev fr x = .sc (.int k1 n)) (hy : aev fr y = .sc (.int k2 n)) (ha : (zeroCs z).mapM AV.pv = some (c a)) (hm : mks b a n = some m) :
  OpS P ⟨dst, .makeSlice t x y, ty, pos, after, guard⟩ fr H (Det (.sl s (m.map c) .ex) H) := opS_makeSlice 0 (by
 obtain ⟨h0, h1, h2, rfl⟩ := mks_some hm
 simp only [aMake, hu, hti, hx, hy, ha]
 refine ⟨hz, h0, trivial, h1, h2, ?_, rfl⟩
 rw [List.map_replicate]; exact .refl _)
theorem azeros_rep {zc : List AV} {cs : List PV} (h : zc = cs.map PV.av) (n : Nat) : azeros zc n = (List.replicate n cs).flatten.map PV.av := by
 induction n with
 | zero => rfl
 | succ n ih => rw [azeros, ih, List.replicate_succ, List.flatten_cons, List.map_append, h]
theorem o_make2 {t e : TypeId} {x y : Operand} {s b : Nat} {z : Value} {k1 k2 : IntKind} {n : Int} {a : α} {m : List α} {H1 : Mem} (hu : P.underlying t = some (.slice e)) (hti : tinf P e = some (s, b, some z)) (hz : (zeroCs z).length = s)
  (hx : aev fr x = .sc (.int k1 n)) (hy : aev fr y = .sc (.int k2 n)) (ha : zeroCs z = (c a).map PV.av) (hm : mks b a n = some m) (hM : H1 = H ++ [.cells ((m.map c).flatten.map PV.av)]) :
  OpS P ⟨dst, .makeSlice t x y, ty, pos, after, guard⟩ fr H (Det (.hs H.length 0 m.length m.length s) H1) := opS_makeSlice 2 (by
 obtain ⟨h0, h1, h2, rfl⟩ := mks_some hm
 simp only [aMake, hu, hti, hx, hy]
 refine ⟨hz, h0, trivial, h1, h2, ?_⟩
 show Det _ H1 (.hs H.length 0 n.toNat n.toNat s) (H ++ [.cells (azeros (zeroCs z) n.toNat)])
 rw [azeros_rep ha, hM, List.map_replicate, List.length_replicate]
 exact ⟨.refl _, rfl⟩)
end
section
variable {α : Type} {c : α → List PV} {z : Nat}
theorem flat_len (hz : ∀ a, (c a).length = z) (l : List α) : ((l.map c).flatten.map PV.av).length = l.length * z := by
 rw [List.length_map, flatten_length (z := z) (by intro e he; obtain ⟨a, _, rfl⟩ := List.mem_map.1 he; exact hz a), List.length_map]
theorem flat_get (hz : ∀ a, (c a).length = z) : ∀ {l : List α} {i : Nat} {a : α}, l[i]? = some a → ∀ {j : Nat}, j < z → ((l.map c).flatten)[i * z + j]? = (c a)[j]?
 | [], i, a, h, j, hj => by simp at h
 | b :: l, 0, a, h, j, hj => by
  simp at h; subst h
  rw [List.map_cons, List.flatten_cons, Nat.zero_mul, Nat.zero_add, List.getElem?_append_left (by rw [hz]; exact hj)]
 | b :: l, i + 1, a, h, j, hj => by
  rw [List.getElem?_cons_succ] at h
  rw [List.map_cons, List.flatten_cons, List.getElem?_append_right (by rw [hz, Nat.add_mul]; omega), hz, show (i + 1) * z + j - z = i * z + j by rw [Nat.add_mul]; omega]
  exact flat_get hz h hj
theorem setAt_mid (C : List AV) : ∀ (A B vs : List AV), B.length = vs.length → setAt (A ++ (B ++ C)) A.length vs = A ++ (vs ++ C)
 | A, [], [], _ => rfl
 | A, b :: B, v :: vs, h => by
  have e1 : (A ++ (b :: B ++ C)).set A.length v = (A ++ [v]) ++ (B ++ C) := by
   rw [List.set_append_right _ _ (Nat.le_refl _), Nat.sub_self]; simp
  have e2 : A.length + 1 = (A ++ [v]).length := by simp
  rw [setAt, e1, e2, setAt_mid C (A ++ [v]) B vs (by simpa using h)]
  simp
 | A, [], v :: vs, h => by simp at h
 | A, b :: B, [], h => by simp at h
theorem o_loadO {t : TypeId} {x : Operand} {q : Nat × Nat × Option Value} {id off j : Nat} {l : List α} {i : Int} {a : α} {p : PV} {r : AV} (hag : aggT P t = some false) (hti : tinf P t = some q) (hx : aev fr x = .pt id off) (ho : off = i.toNat * z + j)
  (hm : H[id]? = some (.cells ((l.map c).flatten.map PV.av))) (hz : ∀ a, (c a).length = z) (hi : idx l i = some a) (hp : (c a)[j]? = some p) (h : AVLe p.av r) : OpS P ⟨dst, .load t x, ty, pos, after, guard⟩ fr H (Det r H) :=
 o_loadP hag hti hx hm (by
  rw [ho, List.getElem?_map, flat_get hz (idx_some hi).2 (by have := lt_of_get hp; rw [hz] at this; exact this), hp]; rfl) h
theorem ALe.set {cs : List AV} {v v' : AV} (h : AVLe v v') : ∀ (k : Nat), ALe (cs.set k v) (cs.set k v') := by
 induction cs with
 | nil => intro k; exact trivial
 | cons a cs ih =>
  intro k
  cases k with
  | zero => exact ⟨h, .refl _⟩
  | succ k => exact ⟨.refl _, ih k⟩
theorem mapM_flat (hp : ∀ a, ((c a).map PV.av).mapM AV.pv = some (c a)) (l : List α) : ((l.map c).flatten.map PV.av).mapM AV.pv = some (l.map c).flatten := by
 induction l with
 | nil => rfl
 | cons a l ih => rw [List.map_cons, List.flatten_cons, List.map_append, List.mapM_append, hp, ih]; rfl
theorem chunk_flat (hz : ∀ a, (c a).length = z) (l : List α) : chunk z l.length (((l.map c).flatten.drop 0).take (l.length * z)) = l.map c := by
 rw [List.drop_zero, List.take_of_length_le (by have := flat_len hz l; rw [List.length_map] at this; omega)]
 induction l with
 | nil => rfl
 | cons a l ih => rw [List.length_cons, chunk, List.map_cons, List.flatten_cons, List.take_left' (hz a), List.drop_left' (hz a), ih]
def FrzL (fr : Frm) (id n s : Nat) (rows : List (List PV)) : List (Nat × AV) → Prop
 | [] => True
 | (d, v) :: q => (AVLe (fr d) v ∨ (∃ mc, fr d = .hs id 0 n mc s) ∧ v = .sl s rows .no) ∧ FrzL fr id n s rows q
theorem Reb.frz {N n0 : Nat} {H : Mem} {id n : Nat} {l : List α} {fl : List (Nat × AV)} (hz : ∀ a, (c a).length = z) (hp : ∀ a, ((c a).map PV.av).mapM AV.pv = some (c a)) (hid : H[id]? = some (.cells ((l.map c).flatten.map PV.av))) (hn : l.length = n)
  (h : FrzL fr id n z (l.map c) fl) : Reb N n0 fr (Frm.of fl) H (H.set id .dead) := fun g w tmps hn0 hf hm => by
 subst hn
 obtain ⟨hm1, hg1⟩ := hm.freeze hid
 refine ⟨_, ⟨hf.size, ?_⟩, hm1, ⟨⟨hg1.ro, fun i hi => hg1.mu i (by omega)⟩, fun b _ ho => ⟨ho, rfl⟩, Nat.le_refl _, rfl, rfl, rfl⟩, by simpa using hn0⟩
 intro t
 have hlen : (H.set id Ent.dead).length = H.length := by simp
 rw [hlen]
 have hv := hf.vr t
 generalize tmps.getD t undef = u at hv
 induction fl with
 | nil => exact .any _
 | cons p r ih =>
  obtain ⟨d, v⟩ := p
  obtain ⟨h1, h2⟩ := h
  by_cases e : t = d
  ·subst e
   simp only [Frm.of, if_true]
   rcases h1 with h1 | ⟨⟨mc, h1⟩, rfl⟩
   ·exact h1 _ _ _ (hv.mono hg1 (Nat.le_refl _))
   ·rw [h1] at hv
    generalize hq : l.length = q at hv
    cases hv with
    | hs _ _ _ _ _ cap hidl hll hmc hcap =>
     have := freeze_row (n := H.length) (off := 0) (len := q) (s := z) (cap := cap) hm hid (mapM_flat hp l) (by rw [flat_len hz, hq]; omega) (Nat.le_trans hll hmc)
     rw [← hq, chunk_flat hz] at this
     rw [← hq]; exact this
    | hn _ _ _ a hidl =>
     have : l = [] := List.eq_nil_of_length_eq_zero hq
     subst this
     cases a with
     | none => exact .nil z .no fun t e => by cases e
     | some a => exact VR.sl z [] .no a 0 (fun _ => undef) (.inl rfl) (Nat.le_refl _) (fun e he => by cases he) (fun k p hk => by simp at hk) trivial
  ·simp only [Frm.of, if_neg e]
   exact ih h2
end
theorem o_buildSlice0 {t e : TypeId} {len : Nat} {ps : Array (Nat × Operand)} {s b : Nat} {z : Value} {cs : List AV} {pcs : List PV} {r : AV} (hu : P.underlying t = some (.slice e)) (hti : tinf P e = some (s, b, some z)) (hz : (zeroCs z).length = s)
  (hn : len * s ≤ 16777216) (hf : afill (fun i => some (i * s, s)) (azeros (zeroCs z) len) (ps.toList.map fun x => (x.1, aev fr x.2)) = some cs) (hp : cs.mapM AV.pv = some pcs) (hr : AVLe (.sl s (chunk s len pcs) .ex) r) :
  OpS P ⟨dst, .buildSlice t len ps, ty, pos, after, guard⟩ fr H (Det r H) := opS_buildSlice 0 (by simp only [aBuildSlice, hu, hti, hf, hp]; exact ⟨hz, hn, hr, rfl⟩)
theorem o_buildSlice2 {t e : TypeId} {len : Nat} {ps : Array (Nat × Operand)} {s b : Nat} {z : Value} {cs : List AV} {H1 : Mem} (hu : P.underlying t = some (.slice e)) (hti : tinf P e = some (s, b, some z)) (hz : (zeroCs z).length = s)
  (hn : len * s ≤ 16777216) (hf : afill (fun i => some (i * s, s)) (azeros (zeroCs z) len) (ps.toList.map fun x => (x.1, aev fr x.2)) = some cs) (hM : H1 = H ++ [.cells cs]) :
  OpS P ⟨dst, .buildSlice t len ps, ty, pos, after, guard⟩ fr H (Det (.hs H.length 0 len len s) H1) := opS_buildSlice 2 (by simp only [aBuildSlice, hu, hti, hf]; exact ⟨hz, hn, .refl _, hM.symm⟩)
theorem o_build {t : TypeId} {ps : Array (Nat × Operand)} {fs : Array Field} {s b : Nat} {z : Value} {pl : Nat → Option (Nat × Nat)} {cs : List AV} {r : AV} (hti : tinf P t = some (s, b, some z)) (hu : P.underlying t = some (.struct fs))
  (hpl : ∀ i, fplace P fs i = pl i) (hall : fs.all (fun f => (tinf P f.type).isSome) = true) (hf : afill pl (zeroCs z) (ps.toList.map fun x => (x.1, aev fr x.2)) = some cs) (hr : AVLe (.ag cs) r) :
  OpS P ⟨dst, .build t ps, ty, pos, after, guard⟩ fr H (Det r H) := opS_build (by
 have : fplace P fs = pl := funext hpl
 simp only [aBuild, hti, hu, this, hf]
 exact ⟨hall, hr, rfl⟩)
theorem o_call {f : FuncId} {xs : Array Operand} {ats : Array TypeId} {args : List AV} {r0 r : AV} {H1 : Mem} (hc : ACalls P f args H fun r' H' => r' = r0 ∧ H' = H1) (ha : ALe (xs.toList.map (aev fr)) args) (hr : AVLe r0 r) :
  OpS P ⟨dst, .call ⟨.value (.func f), xs, ats⟩, ty, pos, after, guard⟩ fr H (Det r H1) := opS_call ((ACalls.le ha hc).mono fun _ _ ⟨e1, e2⟩ => by subst e1 e2; exact ⟨hr, rfl⟩)
end
theorem reb_done {P : Program} {fn : Func} {N n0 : Nat} {fr fr0 : Frm} {M M0 : Mem} {R : AV → Mem → Prop} (h : Reb N n0 fr fr0 M M0) (h2 : ∃ fr1 H', Reb N n0 fr0 fr1 M0 H' ∧ resS P fn fr1 H' R) :
  ∃ fr1 H', Reb N n0 fr fr1 M H' ∧ resS P fn fr1 H' R := by
 obtain ⟨fr1, H', a, b⟩ := h2
 exact ⟨fr1, H', h.trans a, b⟩
theorem done_tmp {P : Program} {fn : Func} {N n0 : Nat} {t : Tmp} {fr : Frm} {M H1 : Mem} {r0 : AV} (hr : fn.results = #[.tmp t]) (h : AVLe (fr t) r0) (hp : H1 <+: M) :
  ∃ fr1 H', Reb N n0 fr fr1 M H' ∧ resS P fn fr1 H' fun r M => AVLe r r0 ∧ H1 <+: M := fin_here (resS_tmp hr ⟨h, hp⟩)
theorem done_none {P : Program} {fn : Func} {N n0 : Nat} {fr : Frm} {M H1 : Mem} (hr : fn.results = #[]) (hp : H1 <+: M) :
  ∃ fr1 H', Reb N n0 fr fr1 M H' ∧ resS P fn fr1 H' fun r M => AVLe r (.tp []) ∧ H1 <+: M := fin_here (resS_none hr ⟨.refl _, hp⟩)
section
variable {P : Program} {fr : Frm} {M : Mem} {rs : List ResultVar} {asl : List AV} {r : AV}
end
end Go.Proofs.Ytpkcdabbijaklaa.Am
namespace Go.Proofs.Ytpkcdabbijaklaa.Am
open Go
set_option linter.unusedVariables false
section
variable {P : Program} {fr : Frm} {H : Mem} {dst : Option Nat} {ty : TypeId} {pos : String} {after : Array Edge} {guard : Option (Nat × Bool)}
theorem OpsS_nilT {ops : Array Oper} {rest : List Oper} {K : Frm → Mem → Prop} {t t' e : TypeId} {x y : Operand} {z : Nat} {es : List (List PV)} {k : Tk} (hg : agd ops fr ⟨dst, .binOp .eql t x y t', ty, pos, after, guard⟩ = some true)
  (hu : P.underlying t = some (.slice e)) (hx : aev fr x = .sl z es k) (hy : aev fr y = .sc (.slice none 0 0)) (h : ∀ b : Bool, (b = true → es = []) → OpsS P ops rest (fr.put dst (.sc (.bool b))) H K) :
  OpsS P ops (⟨dst, .binOp .eql t x y t', ty, pos, after, guard⟩ :: rest) fr H K := by
 simp only [OpsS, hg]
 exact opS_isNil hx hy (by unfold aNil; rw [hu]; exact fun b hb => h b hb)
theorem o_bytesC {s e : TypeId} {x : Operand} {id n mc : Nat} {l : List Int} {cs : List AV} {H1 : Mem} (hs : P.underlying s = some (.slice e)) (he : P.underlying e = some (.int .u8)) (hx : aev fr x = .hs id 0 n mc 1) (hn : l.length = n) (h0 : n ≠ 0)
  (hm : H[id]? = some (.cells cs)) (hc : cs = (l.map c_u8).flatten.map PV.av) (hM : H1 = H.set id .dead) :
  OpS P ⟨dst, .convert s s x, ty, pos, after, guard⟩ fr H (Det (.sl 1 (l.map c_u8) .no) H1) := opS_bytes 0 (by
 subst hc hn
 simp only [aBytes, hs, he, hx, hm]
 have hlen : ((l.map c_u8).flatten.map PV.av).length = l.length := by rw [flat_len (z := 1) (fun _ => rfl)]; omega
 refine ⟨trivial, trivial, h0, by rw [hlen]; omega, ?_⟩
 rw [mapM_flat (fun _ => rfl)]
 have e2 : chunk 1 l.length (((l.map c_u8).flatten.drop 0).take (l.length * 1)) = l.map c_u8 := chunk_flat (c := c_u8) (z := 1) (fun _ => rfl) l
 simp only [e2]
 exact ⟨.refl _, hM.symm⟩)
theorem o_copyO {α : Type} {c : α → List PV} {z : Nat} {t u e : TypeId} {x y : Operand} {b : Nat} {zz : Option Value} {id off len mc : Nat} {l l2 m : List α} {H1 : Mem} (hu : P.underlying t = some (.slice e)) (hti : tinf P e = some (z, b, zz)) (hz : ∀ a, (c a).length = z)
  (hcell : ∀ a, ((c a).map PV.av).all AV.cellish = true)
  (hx : aev fr x = .hs id (off * z) len mc z) (hy : aev fr y = .sl z (l2.map c) .no ∨ aev fr y = .sl z (l2.map c) .ex ∨ aev fr y = .sc (.slice none 0 0) ∧ l2 = []) (hm : H[id]? = some (.cells ((l.map c).flatten.map PV.av))) (hl : off + len ≤ l.length)
  (hmm : m = l.take off ++ l2.take len ++ l.drop (off + min l2.length len)) (hM : H1 = H.set id (.cells ((m.map c).flatten.map PV.av))) :
  OpS P ⟨dst, .call ⟨.builtin .copy, #[x, y], #[t, u]⟩, ty, pos, after, guard⟩ fr H (Det (.sc (.int .i64 (min l2.length len : Nat))) H1) := opS_copy (by
 have hsrc : srcA z (aev fr y) H = some (l2.length, (l2.map c).flatten.map PV.av) := by
  rcases hy with hy | hy | ⟨hy, rfl⟩ <;> simp [srcA, hy]
 have h1 : ((l2.map c).flatten.map PV.av).take (min l2.length len * z) = ((l2.take len).map c).flatten.map PV.av := by
  have e : l2 = l2.take len ++ l2.drop len := (List.take_append_drop _ _).symm
  have hlen : min l2.length len * z = (((l2.take len).map c).flatten.map PV.av).length := by rw [flat_len hz, List.length_take, Nat.min_comm]
  conv => lhs; rw [hlen]; arg 2; rw [e]
  rw [List.map_append, List.flatten_append, List.map_append, List.take_left]
 have h2 : setAt ((l.map c).flatten.map PV.av) (off * z) (((l2.take len).map c).flatten.map PV.av) = ((m.map c).flatten.map PV.av) := by
  have hk : min l2.length len ≤ len := Nat.min_le_right _ _
  have e : l = l.take off ++ ((l.drop off).take (min l2.length len) ++ l.drop (off + min l2.length len)) := by
   rw [← List.drop_drop, List.take_append_drop, List.take_append_drop]
  have el : off * z = (((l.take off).map c).flatten.map PV.av).length := by rw [flat_len hz, List.length_take, Nat.min_eq_left (by omega)]
  rw [hmm]
  conv => lhs; arg 1; rw [e]
  simp only [List.map_append, List.flatten_append, List.append_assoc]
  conv => lhs; rw [el]
  rw [setAt_mid]
  rw [flat_len hz, flat_len hz]
  congr 1
  simp only [List.length_take, List.length_drop]
  omega
 simp only [aCopy, hu, hti, hsrc, hx, hm, h1, h2]
 refine ⟨trivial, ?_, ?_, .refl _, hM.symm⟩
 ·rw [List.all_eq_true]
  intro v hv
  obtain ⟨p, hp, rfl⟩ := List.mem_map.1 hv
  obtain ⟨e, he, hpe⟩ := List.mem_flatten.1 hp
  obtain ⟨a, ha, rfl⟩ := List.mem_map.1 he
  exact List.all_eq_true.1 (hcell a) _ (List.mem_map.2 ⟨p, hpe, rfl⟩)
 ·rw [flat_len hz, ← Nat.add_mul]
  exact Nat.mul_le_mul_right _ (by have := Nat.min_le_right l2.length len; omega))
end
theorem Bd.wide {n m : Nat} (h : n ≤ m) {a : AV} (hb : Bd n a) : Bd m a := by
 induction hb with
 | any => exact .any
 | sc v => exact .sc v
 | sl z es k hk => exact .sl z es k fun t e => Nat.lt_of_lt_of_le (hk t e) h
 | ag cs _ ih => exact .ag cs ih
 | tp cs _ ih => exact .tp cs ih
 | pt id off hid => exact .pt id off (by omega)
 | ep cs => exact .ep cs
 | hs id off len mc s hid => exact .hs id off len mc s (by omega)
 | mp id hid => exact .mp id (by omega)
 | fn f fs cs _ _ i1 i2 => exact .fn f fs cs i1 i2
theorem Bd.emono {n m : Nat} (h : n ≤ m) {e : Ent} (hb : e.Bd n) : e.Bd m := by
 cases e with
 | dead => trivial
 | tok => trivial
 | cells cs => exact fun i c hc => (hb i c hc).wide h
 | map es => exact fun k a hi => (hb k a hi).wide h
 | mpi es ents clock => exact fun k a hi => (hb k a hi).wide h
 | itr mid since seen stepped => exact Nat.lt_of_lt_of_le hb h
 | lit vs => trivial
 | tr cs => exact fun i c hc => (hb i c hc).mono fun _ ha => ha.wide h
theorem MBd.new {H : Mem} {cs : List AV} (hH : MBd H) (hc : cs.all AV.clo1 = true) : MBd (H ++ [.cells cs]) := fun id e he => by
 rcases get_snoc he with he | ⟨rfl, rfl⟩
 ·exact Bd.emono (by simp) (hH id e he)
 ·exact fun i c hc' => AV.clo1_bd (List.all_eq_true.1 hc c (List.mem_of_getElem? hc'))
theorem clo1_av (p : PV) : p.av.clo1 = true := by cases p <;> rfl
theorem MBd.newO {H : Mem} {ps : List PV} (hH : MBd H) : MBd (H ++ [.cells (ps.map PV.av)]) := hH.new (by rw [List.all_map, List.all_eq_true]; exact fun p _ => clo1_av p)
theorem Bd_newO {n mc z : Nat} (H : Mem) (x : Ent) : Bd (H ++ [x]).length (.hs H.length 0 n mc z) := .hs _ _ _ _ _ (by simp)
theorem AVLt.hn (n z : Nat) : AVLt n (.sc (.slice none 0 0)) (.hs n 0 0 0 z) := fun _ _ _ hn h => by cases h; exact .hn n 0 z none hn
theorem Reb.none {N n0 : Nat} {fr : Frm} {H : Mem} {l : List (Nat × AV)} (h : FtL H.length fr l) : Reb N n0 fr (Frm.of l) H (H ++ [.cells []]) := fun g w tmps hl hf hm => by
 obtain ⟨m1, m2⟩ := hm.push_none
 refine ⟨_, ⟨hf.size, ?_⟩, m1, ⟨⟨m2.gle.ro, fun i hi => m2.gle.mu i (by omega)⟩, m2.un, m2.size, m2.os, m2.tape, m2.output⟩, by simp; omega⟩
 intro t
 have hfr := (hf.mono m2.gle (by simp : H.length ≤ (H ++ [Ent.cells []]).length)).vr t
 generalize tmps.getD t undef = u at hfr
 induction l with
 | nil => exact .any _
 | cons p r ih =>
  obtain ⟨d, v⟩ := p
  by_cases e : t = d
  ·subst e
   simp only [Frm.of, if_true]
   exact h.1 _ _ _ (by simp) hfr
  ·simp only [Frm.of, if_neg e]
   exact ih h.2
theorem MR.retok {g : Gh} {H : Mem} {w : World} {id b o l : Nat} (hm : MR g H w) (hd : H[id]? = some .dead) (hob : g.ow b = some id) (hblk : Blk w b l) (hro : ∀ o' v, g.ro b o' = some v → o' < o) :
  MR (g.addE H.length ⟨b, o, l⟩) (H ++ [.tok]) w ∧ Ev H.length g w (g.addE H.length ⟨b, o, l⟩) w := by
 have hgle : Gle H.length g (g.addE H.length ⟨b, o, l⟩) := ⟨fun _ _ _ h => h, fun i hi => by simp only [Gh.addE]; rw [if_neg (by omega)]⟩
 refine ⟨⟨hm.ro, fun id' x hx => ?_, fun b' id' ho => ?_⟩, ⟨hgle, fun b' hb' ho => ⟨?_, rfl⟩, Nat.le_refl _, rfl, rfl, rfl⟩⟩
 ·rcases get_snoc hx with hx | ⟨rfl, rfl⟩
  ·have hid := lt_of_get hx
   have he := hm.ent id' x hx
   rcases he.own hid with hfr' | hown
   ·exact hfr' _ _ _ hgle
   ·by_cases hbi : id' = id
    ·subst hbi
     rw [hd] at hx; cases hx; trivial
    ·refine he.keep hid hgle (by simp) fun b' hown => ⟨?_, fun _ => rfl, rfl⟩
     have hbb : b' ≠ b := fun hbb => by rw [hbb, hob] at hown; cases hown; exact hbi rfl
     simp only [Gh.addE]; rw [if_neg hbb]; exact hown
  ·simp only [EntR, Gh.addE, if_true]
   exact .inr ⟨trivial, hblk, hro⟩
 ·simp only [Gh.addE] at ho
  split at ho
  ·rename_i e; subst e; cases ho
   exact ⟨(hm.ow _ _ hob).1, by simp⟩
  ·have := hm.ow b' id' ho
   exact ⟨this.1, by simp; omega⟩
 ·simp only [Gh.addE]
  rw [if_neg (fun e => by rw [e, hob] at ho; cases ho)]; exact ho
theorem VR.withT {g g2 : Gh} {n m z len cap T : Nat} {rows : List (List PV)} {a : Addr} (h : VR g n (.sl z rows .no) (.slice (some a) len cap)) (hro : ∀ b o v, g.ro b o = some v → g2.ro b o = some v) (ht : T < m)
  (hmu : cap = len ∨ g2.mu T = ⟨a.block, a.off + len * z, a.off + cap * z⟩) : VR g2 m (.sl z rows (.tk T)) (.slice (some a) len cap) := by
 cases h with
 | sl _ _ _ _ _ f q1 q2 q3 q4 q5 => exact .sl z _ _ _ cap f q1 q2 q3 (q4.mono hro) ⟨ht, hmu⟩
theorem Reb.frzT {α : Type} {c : α → List PV} {z : Nat} {N n0 : Nat} {fr : Frm} {H : Mem} {id n mc t : Nat} {l : List α} (hz : ∀ a, (c a).length = z) (hp : ∀ a, ((c a).map PV.av).mapM AV.pv = some (c a)) (hid : H[id]? = some (.cells ((l.map c).flatten.map PV.av))) (hn : l.length = n)
  (ht : fr t = .hs id 0 n mc z) : Reb N n0 fr (Frm.of [(t, .sl z (l.map c) (.tk H.length))]) H (H.set id .dead ++ [.tok]) := fun g w tmps hn0 hf hm => by
 subst hn
 have hlt := lt_of_get hid
 have hlen : (H.set id Ent.dead).length = H.length := by simp
 have hv := hf.vr t
 rw [ht] at hv
 have hl := flat_len hz l
 generalize hu : tmps.getD t undef = u at hv
 generalize hq : l.length = q at hv
 have slot : ∀ (g' : Gh) (m : Nat), VR g' m (.sl z (l.map c) (.tk H.length)) u → FR g' m N (Frm.of [(t, .sl z (l.map c) (.tk H.length))]) tmps := fun g' m h => ⟨hf.size, fun k => by
  by_cases e : k = t
  ·subst e; simp only [Frm.of, if_true]; rw [hu]; exact h
  ·simp only [Frm.of, if_neg e]; exact .any _⟩
 cases hv with
 | hs _ _ _ _ _ cap hidl hll hmc hcap =>
  obtain ⟨h1, h2, h3, h4, h5⟩ := hm.owned hid (.inr (by omega))
  obtain ⟨hm1, hg1⟩ := hm.freeze hid
  obtain ⟨cc, el, frz, b1, b2, b3⟩ := h2
  obtain ⟨m1, m2⟩ := hm1.retok (id := id) (b := (g.mu id).b) (o := (g.mu id).o + q * z) (l := (g.mu id).o + cap * z) (by rw [List.getElem?_set_self hlt]) h1 ⟨cc, el, frz, b1, by omega, fun o ho => b3 o (by omega)⟩ (fun o v hro => by
   simp only [Gh.fz] at hro
   split at hro
   ·rename_i hx; rw [hl, hq] at hx; omega
   ·rw [h4] at hro; cases hro)
  rw [hlen] at m1 m2
  refine ⟨_, slot _ _ ?_, m1, ⟨⟨fun b o v h => m2.gle.ro b o v (hg1.ro b o v h), fun i hi => (m2.gle.mu i (by omega)).trans (hg1.mu i (by omega))⟩, fun b hb ho => m2.un b hb ho, m2.size, m2.os, m2.tape, m2.output⟩, by simp; omega⟩
  have := freeze_row (n := H.length) (off := 0) (len := q) (s := z) (cap := cap) hm hid (mapM_flat hp l) (by rw [hl, hq]; omega) (Nat.le_trans hll hmc)
  rw [← hq, chunk_flat hz, hq] at this
  rw [Nat.add_zero] at this ⊢
  refine this.withT (m2.gle.ro) (by simp) (.inr ?_)
  simp only [Gh.addE, if_true]
 | hn _ _ _ a hidl =>
  have : l = [] := List.eq_nil_of_length_eq_zero hq
  subst this
  obtain ⟨m1, m2⟩ := (hm.kill id).push_void
  rw [hlen] at m1 m2
  refine ⟨_, slot _ _ ?_, m1, ⟨⟨m2.gle.ro, fun i hi => m2.gle.mu i (by omega)⟩, m2.un, m2.size, m2.os, m2.tape, m2.output⟩, by simp; omega⟩
  cases a with
  | none => exact .nil z _ fun t e => by cases e; simp
  | some a => exact VR.sl z [] _ a 0 (fun _ => undef) (.inl rfl) (Nat.le_refl _) (fun e he => by cases he) (fun k p hk => by simp at hk) ⟨by simp, .inl rfl⟩
theorem Reb.ownM {N n mc : Nat} {fr : Frm} {H M : Mem} {e t z : Nat} {ps : List PV} (hb : MBd H) (hp : H <+: M) (hk : M[e]? = some (.cells (ps.map PV.av))) (hlo : H.length ≤ e) (ht : fr t = .hs e 0 n mc z) :
  Reb N H.length fr (Frm.of [(t, .hs H.length 0 n mc z)]) M (H ++ [.cells (ps.map PV.av)]) := by
 obtain ⟨tl, rfl⟩ := hp
 obtain ⟨k, rfl⟩ : ∃ k, e = H.length + k := ⟨e - H.length, by omega⟩
 refine Reb.keep [H.length + k] (Nat.le_refl _) hb rfl (by simp) (fun r h => by simp at h; omega) (fun j r e' h h' => ?_) (Rn.of (l := [(t, .hs H.length 0 n mc z)]) fun p hp => ?_)
 ·cases j with
  | zero =>
   simp at h h'; subst h h'
   refine ⟨_, hk, .cells _ _ rfl fun i c c' h1 h2 => ?_⟩
   rw [h1] at h2; cases h2
   rw [List.getElem?_map] at h1
   cases hx : ps[i]? with
   | none => rw [hx] at h1; cases h1
   | some p =>
    rw [hx] at h1; cases h1
    cases p with
    | sc v => exact .sc v
    | sl z es => exact .no z es .no
  | succ j => simp at h
 ·simp at hp; subst hp
  rw [ht]
  have := Rn.hs (τ := tau H.length [H.length + k]) (m := (H ++ [Ent.cells (ps.map PV.av)]).length) H.length 0 n mc z (by simp)
  rw [tau_hi] at this
  exact this
theorem done_reb {P : Program} {fn : Func} {N n0 : Nat} {t : Tmp} {fr : Frm} {M M1 : Mem} {r0 : AV} (hr : fn.results = #[.tmp t]) (h : Reb N n0 fr (Frm.of [(t, r0)]) M M1) :
  ∃ fr1 H', Reb N n0 fr fr1 M H' ∧ resS P fn fr1 H' fun r M => AVLe r r0 ∧ M1 <+: M := ⟨_, _, h, resS_tmp hr ⟨by simp only [Frm.of, if_true]; exact .refl _, List.prefix_refl _⟩⟩
theorem Bd_new (H : Mem) (x : Ent) : Bd (H ++ [x]).length (.pt H.length 0) := .pt _ _ (by simp)
end Go.Proofs.Ytpkcdabbijaklaa.Am
namespace Go.Proofs.Ytpkcdabbijaklaa.Am
open Go
def slcH (n : Nat) (lo hi : Int) : Option (Nat × Nat) := if 0 ≤ lo ∧ lo ≤ hi ∧ hi ≤ n then some (lo.toNat, hi.toNat - lo.toNat) else none
theorem slcH_some {n o k : Nat} {lo hi : Int} (h : slcH n lo hi = some (o, k)) : 0 ≤ lo ∧ lo ≤ hi ∧ hi ≤ n ∧ o = lo.toNat ∧ k = hi.toNat - lo.toNat := by
 unfold slcH at h
 split at h
 ·rename_i hc; cases h; exact ⟨hc.1, hc.2.1, hc.2.2, rfl, rfl⟩
 ·cases h
theorem slcH_le {n o k : Nat} {lo hi : Int} (h : slcH n lo hi = some (o, k)) : o + k ≤ n := by obtain ⟨h0, h1, h2, rfl, rfl⟩ := slcH_some h; omega
def mget {β : Type} (l : List (Int × β)) (k : Int) : Option β := (l.find? fun y => y.1 == k).map (·.2)
def mset {β : Type} (l : List (Int × β)) (k : Int) (v : β) : List (Int × β) := if l.any (·.1 == k) then l.map fun y => if y.1 == k then (k, v) else y else l ++ [(k, v)]
def munion {β : Type} (s n : List (Int × β)) : List (Int × β) := n.foldl (fun a y => mset a y.1 y.2) s
def mcase {β γ : Type} (o : Option β) (f : β → Option γ) (g : Option γ) : Option γ := match o with | some b => f b | none => g
theorem mcase_s {β γ : Type} {o : Option β} {f : β → Option γ} {g : Option γ} {r : γ} {b : β} (ho : o = some b) (h : mcase o f g = some r) : f b = some r := by subst ho; exact h
theorem mcase_n {β γ : Type} {o : Option β} {f : β → Option γ} {g : Option γ} {r : γ} (ho : o = none) (h : mcase o f g = some r) : g = some r := by subst ho; exact h
def chkE {α : Type} (l : List α) : Option Unit := if l.isEmpty then none else some ()
theorem chkE_some {α : Type} {l : List α} {u : Unit} (h : chkE l = some u) : l ≠ [] := by
 unfold chkE at h
 split at h
 ·cases h
 ·rename_i hc; intro e; subst e; exact hc rfl
def cpyL {α : Type} (l : List α) (o k : Nat) (l2 : List α) : List α := l.take o ++ l2.take k ++ l.drop (o + min l2.length k)
theorem cpyL_len {α : Type} {l l2 : List α} {o k : Nat} (h : o + k ≤ l.length) : (cpyL l o k l2).length = l.length := by unfold cpyL; simp; omega
end Go.Proofs.Ytpkcdabbijaklaa.Am
namespace Go.Proofs.Ytpkcdabbijaklaa.Am
open Go
set_option linter.unusedVariables false
section
variable {P : Program} {fr : Frm} {H : Mem} {dst : Option Nat} {ty : TypeId} {pos : String} {after : Array Edge} {guard : Option (Nat × Bool)}
end
end Go.Proofs.Ytpkcdabbijaklaa.Am
namespace Go.Proofs.Ytpkcdabbijaklaa.Am
open Go
set_option linter.unusedVariables false
section
variable {α : Type} {c : α → List PV} {z : Nat} {P : Program} {fr : Frm} {H : Mem} {dst : Option Nat} {ty : TypeId} {pos : String} {after : Array Edge} {guard : Option (Nat × Bool)}
theorem o_sliceHO {t e : TypeId} {x : Operand} {lo hi : Option Operand} {s b id n m k o : Nat} {zz : Option Value} {lo' hi' : Option (IntKind × Int)} (hu : P.underlying t = some (.slice e)) (hti : tinf P e = some (s, b, zz)) (hx : aev fr x = .hs id 0 n m s)
  (hl : bnd fr lo = some lo') (hh : bnd fr hi = some hi') (hs : slcH m (bd0 lo' 0) (bd0 hi' n) = some (o, k)) : OpS P ⟨dst, .slice t x lo hi none, ty, pos, after, guard⟩ fr H (Det (.hs id (o * s) k (m - o) s) H) := by
 obtain ⟨h0, h1, h2, rfl, rfl⟩ := slcH_some hs
 refine opS_slice (m := none) hl hh rfl ?_
 refine ⟨fun h => (by cases h), ?_⟩
 simp only [hu, hti, hx]
 refine ⟨trivial, h0, h1, h2, Int.le_refl _, ?_⟩
 rw [Nat.zero_add]
 exact ⟨.refl _, rfl⟩
end
end Go.Proofs.Ytpkcdabbijaklaa.Am
namespace Go.Proofs.Ytpkcdabbijaklaa.Am
open Go
set_option linter.unusedVariables false
def RebM (H H1 : Mem) : Prop := H.length ≤ H1.length ∧ ∀ (g : Gh) (w : World), MR g H w → ∃ g1, MR g1 H1 w ∧ Ev H.length g w g1 w
theorem RebM.refl (H : Mem) : RebM H H := ⟨Nat.le_refl _, fun g w h => ⟨g, h, .refl _ _ _⟩⟩
theorem RebM.trans {H H1 H2 : Mem} (h : RebM H H1) (h' : RebM H1 H2) : RebM H H2 := ⟨Nat.le_trans h.1 h'.1, fun g w hm => by
 obtain ⟨g1, m1, e1⟩ := h.2 g w hm
 obtain ⟨g2, m2, e2⟩ := h'.2 g1 w m1
 exact ⟨g2, m2, e1.trans e2 h.1⟩⟩
theorem Ev.less {n n0 : Nat} {g g' : Gh} {w w' : World} (h : Ev n g w g' w') (hn : n0 ≤ n) : Ev n0 g w g' w' := ⟨⟨h.gle.ro, fun i hi => h.gle.mu i (by omega)⟩, h.un, h.size, h.os, h.tape, h.output⟩
theorem Reb.ofM {N n0 : Nat} {fr : Frm} {H H1 : Mem} (h : RebM H H1) : Reb N n0 fr fr H H1 := fun g w tmps hn hf hm => by
 obtain ⟨g1, m1, e1⟩ := h.2 g w hm
 exact ⟨g1, hf.mono e1.gle h.1, m1, e1.less hn, Nat.le_trans hn h.1⟩
theorem OpS.rebM {P : Program} {o : Oper} {fr : Frm} {H H1 : Mem} {K : AV → Mem → Prop} (hr : RebM H H1) (h : OpS P o fr H1 K) : OpS P o fr H K := fun g w ev hop hm => by
 obtain ⟨g1, m1, e1⟩ := hr.2 g w hm
 refine Ls.mono (fun v w' s => ?_) (h g1 w ev (fun x hx => (hop x hx).mono e1.gle hr.1) m1)
 obtain ⟨r, H', g', k, hv, hm', he, hn⟩ := s
 exact ⟨r, H', g', k, hv, hm', e1.trans he hr.1, Nat.le_trans hr.1 hn⟩
theorem EntR.tr_of_cells {g : Gh} {n : Nat} {w : World} {id : Nat} {cs : List AV} (h : EntR g n w id (.cells cs)) : EntR g n w id (.tr (cs.map .av)) := by
 rcases h with ⟨h1, h2⟩ | ⟨h1, h2, h3, h4, h5⟩
 ·exact .inl ⟨by rw [h1]; rfl, h2⟩
 refine .inr ⟨fun b => if b = (g.mu id).b then some [] else none, fun b p hp => ?_, by simp, h2, by simpa using h3, h4, fun k c hc => ?_⟩
 ·simp only at hp
  split at hp
  ·rename_i e; rw [e]; exact h1
  ·cases hp
 ·rw [List.getElem?_map] at hc
  cases hk : cs[k]? with
  | none => rw [hk] at hc; cases hc
  | some a =>
   rw [hk] at hc; cases hc
   obtain ⟨v, hv, hr⟩ := h5 k a hk
   exact ⟨v, hv, .av _ _ _ hr⟩
theorem EntR.cells_of_tr {g : Gh} {n : Nat} {w : World} {id : Nat} {cs : List AV} (h : EntR g n w id (.tr (cs.map .av))) : EntR g n w id (.cells cs) := by
 rcases h with ⟨h1, h2⟩ | ⟨ow, h0, h1, h2, h3, h4, h5⟩
 ·exact .inl ⟨by simpa using h1, h2⟩
 refine .inr ⟨h0 _ _ h1, h2, by simpa using h3, h4, fun k c hc => ?_⟩
 obtain ⟨v, hv, hr⟩ := h5 k (.av c) (by rw [List.getElem?_map, hc]; rfl)
 cases hr with
 | av _ _ _ hr => exact ⟨v, hv, hr⟩
theorem MR.retell {g : Gh} {H : Mem} {w : World} {id : Nat} {e : Ent} (hm : MR g H w) (h : EntR g H.length w id e) : MR g (H.set id e) w := by
 have hlen : (H.set id e).length = H.length := by simp
 refine ⟨hm.ro, fun id' x hx => ?_, fun b i hb => by rw [hlen]; exact hm.ow b i hb⟩
 rw [hlen]
 rcases get_set hx with ⟨hne, hx⟩ | ⟨rfl, rfl, _⟩
 ·exact hm.ent id' x hx
 ·exact h
theorem RebM.tell {H : Mem} {id : Nat} {e : Ent} (h : ∀ g w, MR g H w → EntR g H.length w id e) : RebM H (H.set id e) := ⟨by simp, fun g w hm => ⟨g, hm.retell (h g w hm), .refl _ _ _⟩⟩
theorem RebM.tr {H : Mem} {p : Nat} {cs : List AV} {ts : List Tr} (hp : H[p]? = some (.cells cs)) (ht : ts = cs.map .av) : RebM H (H.set p (.tr ts)) := .tell fun g w hm => by subst ht; exact (hm.ent p _ hp).tr_of_cells
theorem RebM.cells {H : Mem} {p : Nat} {cs : List AV} {ts : List Tr} (hp : H[p]? = some (.tr ts)) (ht : ts = cs.map .av) : RebM H (H.set p (.cells cs)) := .tell fun g w hm => by subst ht; exact (hm.ent p _ hp).cells_of_tr
theorem EntR.retr {g : Gh} {n : Nat} {w : World} {id k : Nat} {cs : List Tr} {t t' : Tr} (h : EntR g n w id (.tr cs)) (hk : cs[k]? = some t) (ht : ∀ ow v, TrR g n w ow [k] t v → TrR g n w ow [k] t' v) : EntR g n w id (.tr (cs.set k t')) := by
 rcases h with ⟨h1, h2⟩ | ⟨ow, h0, h1, h2, h3, h4, h5⟩
 ·subst h1; cases hk
 refine .inr ⟨ow, h0, h1, h2, by simpa using h3, h4, fun j c hc => ?_⟩
 rcases get_set hc with ⟨hne, hc⟩ | ⟨rfl, rfl, _⟩
 ·exact h5 j c hc
 ·obtain ⟨v, hv, hr⟩ := h5 j t hk
  exact ⟨v, hv, ht _ _ hr⟩
theorem RebM.nilS {H : Mem} {p k z : Nat} {cs ds : List Tr} (hp : H[p]? = some (.tr cs)) (hk : cs[k]? = some (.av (.sc (.slice none 0 0)))) (hd : ds = cs.set k (.sr z [])) : RebM H (H.set p (.tr ds)) :=
 .tell fun g w hm => by subst hd; exact (hm.ent p _ hp).retr hk fun ow v h => by cases h with | av _ _ _ h => cases h; exact .srn _ z
theorem RebM.absorb {H : Mem} {p q k : Nat} {cs ds : List Tr} {a : AV} {t : Tr} (hp : H[p]? = some (.tr cs)) (hpq : p ≠ q) (hk : cs[k]? = some (.av a)) (hd : ds = cs.set k t)
  (hsub : ∀ g w v, MR g H w → VR g H.length a v → ∃ oq : Nat → Option (List Nat), (∀ b r, oq b = some r → g.ow b = some q) ∧ TrR g H.length w oq [] t v) : RebM H ((H.set p (.tr ds)).set q .dead) := by
 subst hd
 refine ⟨by simp, fun g w hm => ?_⟩
 let g' : Gh := { g with ow := fun b => if g.ow b = some q then some p else g.ow b }
 have hgle : Gle H.length g g' := ⟨fun _ _ _ h => h, fun _ _ => rfl⟩
 have hlen : ((H.set p (.tr (cs.set k t))).set q .dead).length = H.length := by simp
 have hpl := lt_of_get hp
 refine ⟨g', ⟨hm.ro, fun id x hx => ?_, fun b i hb => ?_⟩, ⟨hgle, fun b _ ho => ⟨by simp [g', ho], rfl⟩, Nat.le_refl _, rfl, rfl, rfl⟩⟩
 ·rw [hlen]
  rcases get_set hx with ⟨hne, hx⟩ | ⟨rfl, rfl, _⟩
  ·rcases get_set hx with ⟨hne2, hx⟩ | ⟨rfl, rfl, _⟩
   ·refine (hm.ent id x hx).keep (lt_of_get hx) hgle (Nat.le_refl _) fun b hb => ⟨?_, fun _ => rfl, rfl⟩
    simp only [g', hb, Option.some.injEq, if_neg hne]
   ·rcases hm.ent id _ hp with ⟨h1, h2⟩ | ⟨ow, h0, h1, h2, h3, h4, h5⟩
    ·subst h1; cases hk
    obtain ⟨v, hv, hr⟩ := h5 k _ hk
    cases hr with
    | av _ _ _ hr =>
     obtain ⟨oq, hq, ht⟩ := hsub g w v hm hr
     have hno : ∀ b r, ow b = some r → oq b = none := fun b r hb => by
      cases ho : oq b with
      | none => rfl
      | some r' => have := hq b r' ho; rw [h0 b r hb] at this; cases this; exact absurd rfl hne
     let ow' : Nat → Option (List Nat) := fun b => match oq b with | some r => some (k :: r) | none => ow b
     refine .inr ⟨ow', fun b r hb => ?_, ?_, h2, by simpa using h3, h4, fun j c hc => ?_⟩
     ·simp only [ow'] at hb
      cases ho : oq b with
      | none => rw [ho] at hb; simp only [g', h0 b r hb, Option.some.injEq, if_neg hne]
      | some r' => simp only [g', hq b r' ho, if_true]
     ·simp only [ow']; rw [hno _ _ h1]; exact h1
     ·rcases get_set hc with ⟨hne3, hc⟩ | ⟨rfl, rfl, _⟩
      ·obtain ⟨u, hu, hur⟩ := h5 j c hc
       refine ⟨u, hu, hur.move hgle (Nat.le_refl _) [j] fun b r hb => ⟨?_, fun _ => rfl, rfl⟩⟩
       simp only [ow']; rw [hno _ _ hb]; exact hb
      ·refine ⟨v, hv, ht.move hgle (Nat.le_refl _) [j] fun b r hb => ⟨?_, fun _ => rfl, rfl⟩⟩
       simp only [ow']
       rw [List.nil_append] at hb
       rw [hb]; rfl
  ·trivial
 ·rw [hlen]
  simp only [g'] at hb
  split at hb
  ·rename_i h1; cases hb; exact ⟨(hm.ow b q h1).1, hpl⟩
  ·exact hm.ow b i hb
theorem TrR.cells {g : Gh} {n : Nat} {w : World} {q : Nat} {ds : List Tr} (h : EntR g n w q (.tr ds)) (hne : ds ≠ [] ∨ (g.mu q).o ≤ (g.mu q).l) : ∃ ow : Nat → Option (List Nat), (∀ b p, ow b = some p → g.ow b = some q) ∧ ow (g.mu q).b = some [] ∧ Blk w (g.mu q).b (g.mu q).l ∧
   (g.mu q).o + ds.length ≤ (g.mu q).l ∧ (∀ o, g.ro (g.mu q).b o = none) ∧ ∃ f : Nat → Value, (∀ (k : Nat) c, ds[k]? = some c → w.cell? ⟨(g.mu q).b, (g.mu q).o + k, none⟩ = some (f k)) ∧ ∀ (k : Nat) c, ds[k]? = some c → TrR g n w ow [k] c (f k) := by
 rcases h with ⟨h1, h2⟩ | ⟨ow, h0, h1, h2, h3, h4, h5⟩
 ·rcases hne with h | h
  ·exact absurd h1 h
  ·omega
 refine ⟨ow, h0, h1, h2, h3, h4, fun k => (w.cell? ⟨(g.mu q).b, (g.mu q).o + k, none⟩).getD undef, fun k c hc => ?_, fun k c hc => ?_⟩
 ·obtain ⟨v, hv, _⟩ := h5 k c hc; simp only [hv]; rfl
 ·obtain ⟨v, hv, hr⟩ := h5 k c hc; simp only [hv]; exact hr
theorem RebM.foldM {H : Mem} {p q k : Nat} {cs ds : List Tr} {es : List (Value × AV)} (hp : H[p]? = some (.tr cs)) (hq : H[q]? = some (.map es)) (hpq : p ≠ q) (hk : cs[k]? = some (.av (.mp q))) (hd : ds = cs.set k (.mp es)) :
  RebM H ((H.set p (.tr ds)).set q .dead) := .absorb hp hpq hk hd fun g w v hm hv => by
 cases hv with
 | mp _ hid =>
  obtain ⟨h1, h2, ents, clock, h3, h4⟩ := hm.ent q _ hq
  refine ⟨fun b => if b = (g.mu q).b then some [] else none, fun b r hb => ?_, .mp [] es _ ents clock (by simp) h2 h3 h4⟩
  simp only at hb
  split at hb
  ·rename_i e; rw [e]; exact h1
  ·cases hb
theorem RebM.foldS {H : Mem} {p q k z : Nat} {es : List (List PV)} {cs ds : List Tr} (hp : H[p]? = some (.tr cs)) (hq : H[q]? = some .tok) (hpq : p ≠ q) (hk : cs[k]? = some (.av (.sl z es (.tk q)))) (hd : ds = cs.set k (.sr z es)) :
  RebM H ((H.set p (.tr ds)).set q .dead) := .absorb hp hpq hk hd fun g w v hm hv => by
 have hv' := hv.no_tok
 cases hv with
 | nil _ _ hk => exact ⟨fun _ => none, (fun b r h => by cases h), .srn [] z⟩
 | sl _ _ _ a cap f g1 g2 g3 g4 g5 =>
  by_cases hc : cap = es.length
  ·exact ⟨fun _ => none, (fun b r h => by cases h), .sr [] z es a _ cap rfl hv' (.inl hc)⟩
  have hmu := g5.2.resolve_left hc
  have he := hm.ent q _ hq
  simp only [EntR, hmu] at he
  rcases he with he | ⟨h1, h2, h3⟩
  ·have := Nat.mul_le_mul_right z g2
   omega
  refine ⟨fun b => if b = a.block then some [] else none, fun b r hb => ?_, .sr [] z es a _ cap rfl hv' (.inr ⟨by simp, h2, h3⟩)⟩
  simp only at hb
  split at hb
  ·rename_i e; rw [e]; exact h1
  ·cases hb
theorem RebM.foldH {H : Mem} {p q k z off len mc : Nat} {cs ds : List Tr} {es : List AV} (hp : H[p]? = some (.tr cs)) (hq : H[q]? = some (.cells es)) (hpq : p ≠ q) (hk : cs[k]? = some (.av (.hs q off len mc z))) (hl : off + len * z ≤ es.length)
  (hd : ds = cs.set k (.hs z len (((es.drop off).take (len * z)).map .av))) : RebM H ((H.set p (.tr ds)).set q .dead) := .absorb hp hpq hk hd fun g w v hm hv => by
 cases hv with
 | hs _ _ _ _ _ cap hid h1 h2 h3 =>
  obtain ⟨k1, k2, k3, k4, k5⟩ := hm.owned hq (.inr (by omega))
  have hlen : ((es.drop off).take (len * z)).length = len * z := by simp; omega
  have hget : ∀ (j : Nat) c, (((es.drop off).take (len * z)).map Tr.av)[j]? = some c → ∃ a v, c = .av a ∧ w.cell? ⟨(g.mu q).b, (g.mu q).o + off + j, none⟩ = some v ∧ VR g H.length a v := fun j c hc => by
   rw [List.getElem?_map] at hc
   cases hj : ((es.drop off).take (len * z))[j]? with
   | none => rw [hj] at hc; cases hc
   | some a =>
    rw [hj] at hc; cases hc
    have hlt := lt_of_get hj
    rw [hlen] at hlt
    rw [List.getElem?_take_of_lt hlt, List.getElem?_drop] at hj
    obtain ⟨v, v1, v2⟩ := k5 _ a hj
    exact ⟨a, v, rfl, by rw [Nat.add_assoc]; exact v1, v2⟩
  refine ⟨fun b => if b = (g.mu q).b then some [] else none, fun b r hb => ?_, .hs [] z len _ _ _ (g.mu q).l cap (fun j => (w.cell? ⟨(g.mu q).b, (g.mu q).o + off + j, none⟩).getD undef) (by simp) k2 (by omega) (by simpa using hlen) (by omega) k4 (fun j c hc => ?_) fun j c hc => ?_⟩
  ·simp only at hb
   split at hb
   ·rename_i e; rw [e]; exact k1
   ·cases hb
  ·obtain ⟨a, v, rfl, v1, v2⟩ := hget j c hc
   simp only [v1]; rfl
  ·obtain ⟨a, v, rfl, v1, v2⟩ := hget j c hc
   simp only [v1]; exact .av _ _ _ v2
 | hn _ _ _ a hid =>
  refine ⟨fun _ => none, (fun b r h => by cases h), ?_⟩
  simp only [Nat.zero_mul, List.take_zero, List.map_nil]
  exact .hn [] z a
def under (k : Nat) : Option (List Nat) → Option (List Nat)
 | some (j :: r) => if j = k then some r else none
 | _ => none
theorem under_self (k : Nat) (r : List Nat) : under k (some (k :: r)) = some r := by simp [under]
theorem RebM.expel {H : Mem} {p k : Nat} {cs ds : List Tr} {a : AV} {t : Tr} {e : Ent} (hp : H[p]? = some (.tr cs)) (hk : cs[k]? = some t) (hd : ds = cs.set k (.av a))
  (hsub : ∀ (g : Gh) w ow v, MR g H w → TrR g H.length w ow [k] t v → ∃ pl : Pl, ∀ g' : Gh, Gle H.length g g' → g'.mu H.length = pl → (∀ b r, ow b = some (k :: r) → g'.ow b = some H.length ∧ ∀ o, g'.ro b o = g.ro b o) →
   VR g' (H.length + 1) a v ∧ EntR g' (H.length + 1) w H.length e) : RebM H (H.set p (.tr ds) ++ [e]) := by
 subst hd
 refine ⟨by simp, fun g w hm => ?_⟩
 rcases hm.ent p _ hp with ⟨h1, h2⟩ | ⟨ow, h0, h1, h2, h3, h4, h5⟩
 ·subst h1; cases hk
 obtain ⟨v, hv, hr⟩ := h5 k _ hk
 obtain ⟨pl, hsub⟩ := hsub g w ow v hm hr
 have hpl := lt_of_get hp
 have hlen : (H.set p (.tr (cs.set k (.av a))) ++ [e]).length = H.length + 1 := by simp
 let g' : Gh := ⟨g.ro, fun b => if (under k (ow b)).isSome then some H.length else g.ow b, fun i => if i = H.length then pl else g.mu i⟩
 have hgle : Gle H.length g g' := ⟨fun _ _ _ h => h, fun i hi => by simp only [g']; rw [if_neg (by omega)]⟩
 have how : ∀ b, (under k (ow b)).isSome = true → g.ow b = some p := fun b hb => by
  cases ho : ow b with
  | none => rw [ho] at hb; cases hb
  | some r => exact h0 b r ho
 obtain ⟨s1, s2⟩ := hsub g' hgle (by simp [g']) fun b r hb => ⟨by simp only [g', hb, under_self]; simp, fun _ => rfl⟩
 refine ⟨g', ⟨hm.ro, fun id x hx => ?_, fun b i hb => ?_⟩, ⟨hgle, fun b _ ho => ⟨?_, rfl⟩, Nat.le_refl _, rfl, rfl, rfl⟩⟩
 ·rw [hlen]
  rcases get_snoc hx with hx | ⟨rfl, rfl⟩
  ·rcases get_set hx with ⟨hne, hx⟩ | ⟨rfl, rfl, _⟩
   ·refine (hm.ent id x hx).keep (lt_of_get hx) hgle (by omega) fun b hb => ⟨?_, fun _ => rfl, rfl⟩
    simp only [g']
    rw [if_neg]
    ·exact hb
    ·intro hu; have := how b hu; rw [hb] at this; cases this; exact hne rfl
   ·have hmu : g'.mu id = g.mu id := hgle.mu id hpl
    simp only [EntR, hmu]
    refine .inr ⟨fun b => if (under k (ow b)).isSome then none else ow b, fun b r hb => ?_, ?_, h2, by simpa using h3, h4, fun j c hc => ?_⟩
    ·simp only at hb
     split at hb
     ·cases hb
     ·rename_i hu; simp only [g']; rw [if_neg hu]; exact h0 b r hb
    ·simp [h1, under]
    ·rcases get_set hc with ⟨hne3, hc⟩ | ⟨rfl, rfl, _⟩
     ·obtain ⟨u, hu, hur⟩ := h5 j c hc
      refine ⟨u, hu, hur.move hgle (by omega) [j] fun b r hb => ⟨?_, fun _ => rfl, rfl⟩⟩
      simp [hb, under, hne3]
     ·exact ⟨v, hv, .av _ _ _ s1⟩
  ·simp only [List.length_set]; exact s2
 ·rw [hlen]
  simp only [g'] at hb
  split at hb
  ·rename_i hu; cases hb; exact ⟨(hm.ow b p (how b hu)).1, by omega⟩
  ·have := hm.ow b i hb; exact ⟨this.1, by omega⟩
 ·simp only [g']
  rw [if_neg]
  ·exact ho
  ·intro hu; have := how b hu; rw [ho] at this; cases this
theorem TrR.out {g g' : Gh} {n n' k j : Nat} {w : World} {ow : Nat → Option (List Nat)} {t : Tr} {v : Value} (h : TrR g n w ow [k, j] t v) (hg : Gle n g g') (hn : n ≤ n') (hro : ∀ b r, ow b = some (k :: r) → ∀ o, g'.ro b o = g.ro b o) :
  TrR g' n' w (fun b => under k (ow b)) [j] t v := h.move hg hn [j] fun b r hb => ⟨by simp only [hb]; exact under_self k _, hro b _ hb, rfl⟩
theorem under_some {k : Nat} {x : Option (List Nat)} {r : List Nat} (h : under k x = some r) : x = some (k :: r) := by
 unfold under at h
 split at h
 ·split at h
  ·rename_i e; subst e; cases h; rfl
  ·cases h
 ·cases h
theorem RebM.unfM {H : Mem} {p k : Nat} {cs ds : List Tr} {es : List (Value × AV)} (hp : H[p]? = some (.tr cs)) (hk : cs[k]? = some (.mp es)) (hd : ds = cs.set k (.av (.mp H.length))) : RebM H (H.set p (.tr ds) ++ [.map es]) := .expel hp hk hd fun g w ow v hm hr => by
 cases hr with
 | mp _ _ b ents clock ho hro hb hmr =>
  refine ⟨⟨b, 0, 0⟩, fun g' hg hmu hb' => ?_⟩
  refine ⟨by have := VR.mp (g := g') (n := H.length + 1) H.length (by omega); rw [hmu] at this; exact this, ?_⟩
  simp only [EntR, hmu]
  obtain ⟨k1, k2⟩ := hb' b [] ho
  exact ⟨k1, fun o => (k2 o).trans (hro o), ents, clock, hb, hmr.mono hg (by omega)⟩
theorem RebM.unfS {H : Mem} {p k z : Nat} {cs ds : List Tr} {es : List (List PV)} (hp : H[p]? = some (.tr cs)) (hk : cs[k]? = some (.sr z es)) (hd : ds = cs.set k (.av (.sl z es (.tk H.length)))) : RebM H (H.set p (.tr ds) ++ [.tok]) := .expel hp hk hd fun g w ow v hm hr => by
 cases hr with
 | sr _ _ _ a len cap hl h hk =>
  subst hl
  by_cases hc : cap = es.length
  ·refine ⟨⟨0, 1, 0⟩, fun g' hg hmu hb' => ⟨h.withT hg.ro (by omega) (.inl hc), ?_⟩⟩
   simp only [EntR, hmu]
   exact .inl (by omega)
  obtain ⟨h1, h2, h3⟩ := hk.resolve_left hc
  refine ⟨⟨a.block, a.off + es.length * z, a.off + cap * z⟩, fun g' hg hmu hb' => ⟨h.withT hg.ro (by omega) (.inr hmu), ?_⟩⟩
  simp only [EntR, hmu]
  obtain ⟨k1, k2⟩ := hb' _ [] h1
  exact .inr ⟨k1, h2, fun o v hv => h3 o v (by rw [← k2]; exact hv)⟩
 | srn _ _ =>
  refine ⟨⟨0, 1, 0⟩, fun g' hg hmu hb' => ⟨.nil z _ fun t e => by cases e; omega, ?_⟩⟩
  simp only [EntR, hmu]
  exact .inl (by omega)
theorem RebM.unfHT {H : Mem} {p k z len : Nat} {cs ds es : List Tr} (hp : H[p]? = some (.tr cs)) (hk : cs[k]? = some (.hs z len es)) (hd : ds = cs.set k (.av (.hs H.length 0 len len z))) : RebM H (H.set p (.tr ds) ++ [.tr es]) := .expel hp hk hd fun g w ow v hm hr => by
 cases hr with
 | hs _ _ _ _ b o l cap f ho hb hc hlen hl hro hv hr =>
  refine ⟨⟨b, o, l⟩, fun g' hg hmu hb' => ?_⟩
  have hlz := Nat.mul_le_mul_right z hl
  refine ⟨by have := VR.hs (g := g') (n := H.length + 1) H.length 0 len len z cap (by omega) (Nat.le_refl _) hl (by rw [hmu]; exact hc); rw [hmu] at this; exact this, ?_⟩
  simp only [EntR, hmu]
  obtain ⟨k1, k2⟩ := hb' b [] ho
  refine .inr ⟨fun b => under k (ow b), fun b r hbr => (hb' b r (under_some hbr)).1, by simp only [ho]; exact under_self k [], hb, by omega, fun o => (k2 o).trans (hro o), fun j c hc => ⟨f j, hv j c hc, (hr j c hc).out hg (by omega) fun b r hbr => (hb' b r hbr).2⟩⟩
 | hn _ _ a =>
  refine ⟨⟨0, 1, 0⟩, fun g' hg hmu hb' => ⟨.hn _ 0 z a (by omega), ?_⟩⟩
  simp only [EntR, hmu]
  exact .inl ⟨trivial, by omega⟩
theorem RebM.unfH {H : Mem} {p k z len : Nat} {cs ds : List Tr} {es : List AV} (hp : H[p]? = some (.tr cs)) (hk : cs[k]? = some (.hs z len (es.map .av))) (hd : ds = cs.set k (.av (.hs H.length 0 len len z))) : RebM H (H.set p (.tr ds) ++ [.cells es]) := by
 have h1 := RebM.unfHT hp hk hd
 have h2 : RebM (H.set p (.tr ds) ++ [Ent.tr (es.map .av)]) ((H.set p (.tr ds) ++ [Ent.tr (es.map .av)]).set H.length (.cells es)) := .cells (ts := es.map .av) (by rw [List.getElem?_append_right (by simp), List.length_set, Nat.sub_self]; rfl) rfl
 have e : (H.set p (.tr ds) ++ [Ent.tr (es.map .av)]).set H.length (.cells es) = H.set p (.tr ds) ++ [.cells es] := by
  have : H.length = (H.set p (.tr ds)).length := by simp
  rw [this, List.set_append_right _ _ (Nat.le_refl _), Nat.sub_self]; rfl
 rw [e] at h2
 exact h1.trans h2
theorem MBd.setTr {H : Mem} {p : Nat} {cs : List Tr} (hH : MBd H) (hc : ∀ c ∈ cs, c.All fun a => a.clo1 = true) : MBd (H.set p (.tr cs)) := fun id e he => by
 rw [List.length_set]
 rcases get_set he with ⟨_, he⟩ | ⟨rfl, rfl, _⟩
 ·exact hH id e he
 ·exact fun i c hc' => (hc c (List.mem_of_getElem? hc')).mono fun _ h => AV.clo1_bd h
theorem MBd.newTr {H : Mem} {cs : List Tr} (hH : MBd H) (hc : ∀ c ∈ cs, c.All fun a => a.clo1 = true) : MBd (H ++ [.tr cs]) := fun id e he => by
 rcases get_snoc he with he | ⟨rfl, rfl⟩
 ·exact Bd.emono (by simp) (hH id e he)
 ·exact fun i c hc' => (hc c (List.mem_of_getElem? hc')).mono fun _ h => AV.clo1_bd h
abbrev Tr.Clo (t : Tr) : Prop := t.All fun a => a.clo1 = true
theorem Clo.row {z n : Nat} (ps : List PV) : (Tr.hs z n ((ps.map PV.av).map .av)).Clo := .hs _ _ _ fun i c hc => by
 rw [List.map_map, List.getElem?_map] at hc
 cases h : ps[i]? with
 | none => rw [h] at hc; cases hc
 | some p => rw [h] at hc; cases hc; exact .av _ (clo1_av p)
theorem Clo.nil : ∀ c ∈ ([] : List Tr), c.Clo := fun c h => by cases h
theorem Clo.cons {t : Tr} {l : List Tr} (h : t.Clo) (hl : ∀ c ∈ l, c.Clo) : ∀ c ∈ t :: l, c.Clo := fun c hc => by
 rcases List.mem_cons.1 hc with rfl | hc
 ·exact h
 ·exact hl c hc
theorem Clo.pt {l : List Tr} (hl : ∀ c ∈ l, c.Clo) : (Tr.pt l).Clo := .pt _ fun i c hc => hl c (List.mem_of_getElem? hc)
theorem Clo.rows {z n : Nat} {l : List Tr} (hl : ∀ c ∈ l, c.Clo) : (Tr.hs z n l).Clo := .hs _ _ _ fun i c hc => hl c (List.mem_of_getElem? hc)
theorem Clo.map {α : Type} {l : List α} {k : α → Value} {v : α → AV} (h : ∀ x, (v x).clo1 = true) : (Tr.mp (l.map fun x => (k x, v x))).Clo := .mp _ fun k' a hi => by
 obtain ⟨x, _, hx⟩ := List.mem_map.1 hi
 cases hx; exact h x
end Go.Proofs.Ytpkcdabbijaklaa.Am
namespace Go.Proofs.Ytpkcdabbijaklaa.Am
open Go
set_option linter.unusedVariables false
section
variable {α : Type} {c : α → List PV} {z : Nat} {P : Program} {fr : Frm} {H : Mem} {dst : Option Nat} {ty : TypeId} {pos : String} {after : Array Edge} {guard : Option (Nat × Bool)}
end
theorem RebM.mem {H : Mem} {id : Nat} {cs cs' : List AV} (hid : H[id]? = some (.cells cs)) (hl : ALe cs cs') : RebM H (H.set id (.cells cs')) := ⟨by simp, fun g w hm => ⟨g, hm.le hid hl, .refl _ _ _⟩⟩
theorem OpS.post {P : Program} {o : Oper} {fr : Frm} {H H1 H2 : Mem} {r : AV} (h : OpS P o fr H (Det r H1)) (rb : RebM H1 H2) : OpS P o fr H (Det r H2) := fun g w ev h1 h2 =>
 Ls.mono (fun v w' s => by
  obtain ⟨r', H', g', ⟨k1, k2⟩, hv, hm, he, hn⟩ := s
  subst k2
  obtain ⟨g1, m1, e1⟩ := rb.2 g' w' hm
  exact ⟨r', _, g1, ⟨k1, rfl⟩, hv.mono e1.gle rb.1, m1, he.trans (e1.less hn) (Nat.le_refl _), Nat.le_trans hn rb.1⟩) (h g w ev h1 h2)
theorem ALe.app : ∀ {a a' b b' : List AV}, ALe a a' → ALe b b' → ALe (a ++ b) (a' ++ b')
 | [], [], _, _, _, h => h
 | _ :: _, _ :: _, _, _, h, h' => ⟨h.1, ALe.app h.2 h'⟩
 | [], _ :: _, _, _, h, _ => h.elim
 | _ :: _, [], _, _, h, _ => h.elim
section
variable {α : Type} {c : α → List PV} {z : Nat} {P : Program} {fr : Frm} {H : Mem} {dst : Option Nat} {ty : TypeId} {pos : String} {after : Array Edge} {guard : Option (Nat × Bool)}
theorem o_indexAddrA {t e n : Nat} {x y : Operand} {s b : Nat} {zz : Option Value} {l : List α} {id : Nat} {kk : IntKind} {i : Int} {a : α} (hu : P.underlying t = some (.array n e)) (hti : tinf P e = some (s, b, zz)) (hx : aev fr x = .pt id 0)
  (hy : aev fr y = .sc (.int kk i)) (hn : l.length = n) (hi : idx l i = some a) : OpS P ⟨dst, .indexAddr t x y, ty, pos, after, guard⟩ fr H (Det (.pt id (i.toNat * s)) H) := opS_indexAddr (by
 obtain ⟨h0, h1⟩ := idx_lt hi
 simp only [aIndexAddr, hu, hti, hx, hy, Nat.zero_add]
 exact ⟨h0, by rw [← hn]; exact h1, .refl _, rfl⟩)
end
theorem tok_neT {M : Mem} {i j : Nat} {cs : List Tr} (h : M[i]? = some (.tr cs)) (h2 : M[j]? = some .tok) : i ≠ j := fun e => by rw [e, h2] at h; cases h
theorem tok_neM {M : Mem} {i j : Nat} {es : List (Value × AV)} (h : M[i]? = some (.map es)) (h2 : M[j]? = some .tok) : i ≠ j := fun e => by rw [e, h2] at h; cases h
theorem Reb.newM {N : Nat} {fr : Frm} {H M : Mem} {e t : Nat} {x : Ent} (hb : MBd H) (hp : H <+: M) (hk : M[e]? = some x) (hlo : H.length ≤ e) (ht : fr t = .pt e 0) (hx : RnE (tau H.length [e]) (H ++ [x]).length x x) :
  Reb N H.length fr (Frm.of [(t, .pt H.length 0)]) M (H ++ [x]) := by
 obtain ⟨tl, rfl⟩ := hp
 refine Reb.keep [e] (Nat.le_refl _) hb rfl (by simp) (fun r h => by simp at h; omega) (fun j r e' h h' => ?_) (Rn.of (l := [(t, .pt H.length 0)]) fun p hp => ?_)
 ·cases j with
  | zero => simp at h h'; subst h h'; exact ⟨_, hk, hx⟩
  | succ j => simp at h
 ·simp at hp; subst hp
  rw [ht]
  have := Rn.pt (τ := tau H.length [e]) (m := (H ++ [x]).length) H.length 0 (by simp)
  rw [tau_hi] at this
  exact this
theorem Rn.clo1 {τ : Nat → Nat} {m : Nat} {a : AV} (h : a.clo1 = true) : Rn τ m a a := by
 unfold AV.clo1 at h
 split at h
 ·exact .any _
 ·exact .sc _
 ·exact .no _ _ _
 ·exact .ex _ _
 ·exact .ep _
 ·cases h
theorem RnE.tr1 {τ : Nat → Nat} {m : Nat} {cs : List Tr} (h : ∀ c ∈ cs, c.Clo) : RnE τ m (.tr cs) (.tr cs) := .tr _ fun i c hc => (h c (List.mem_of_getElem? hc)).mono fun _ ha => .clo1 ha
end Go.Proofs.Ytpkcdabbijaklaa.Am
namespace Go.Proofs.Ytpkcdabbijaklaa.Am
open Go
open Go.MapKept (Stamped IsKey)
set_option linter.unusedVariables false
theorem MR.putO {g : Gh} {H : Mem} {w w1 : World} {id : Nat} {e' : Ent} {o : Obj} (hm : MR g H w) (hlt : id < H.length) (h1 : g.ow (g.mu id).b = some id) (h4 : ∀ o, g.ro (g.mu id).b o = none)
  (hu : Upd w w1 (g.mu id).b o) (he : EntR g H.length w1 id e') : MR g (H.set id e') w1 ∧ Ev H.length g w g w1 := by
 refine ⟨⟨fun b o v hro => ?_, fun id' x hx => ?_, fun b id' ho => ?_⟩, ⟨.refl _ _, fun b hb' ho => ⟨ho, hu.other fun hbb => ?_⟩, by rw [hu.size]; omega, hu.os, hu.tape, hu.output⟩⟩
 ·have := hm.ro b o v hro
  rw [hu.cell_other]
  ·exact this
  ·intro hbb; simp only at hbb; rw [hbb, h4] at hro; cases hro
 ·rw [List.length_set]
  rcases get_set hx with ⟨hne, hx⟩ | ⟨rfl, rfl, _⟩
  ·refine (hm.ent id' x hx).keep (lt_of_get hx) (.refl _ _) (Nat.le_refl _) fun b hown => ⟨hown, fun _ => rfl, hu.other fun hbb => ?_⟩
   rw [hbb, h1] at hown; cases hown; exact hne rfl
  ·exact he
 ·have := hm.ow b id' ho
  rw [hu.size]; exact ⟨this.1, by simpa using this.2⟩
 ·rw [hbb, h1] at ho; cases ho
theorem MR.pushO {g : Gh} {H : Mem} {w w1 : World} {o : Obj} {e : Ent} (hm : MR g H w) (hh : w1.heap = w.heap.push o) (hos : w1.os = w.os) (htp : w1.tape = w.tape) (hout : w1.output = w.output)
  (he : ∀ g' : Gh, Gle H.length g g' → g'.mu H.length = ⟨w.heap.size, 0, 0⟩ → g'.ow w.heap.size = some H.length → (∀ o, g'.ro w.heap.size o = none) → w1.heap[w.heap.size]? = some o → EntR g' (H.length + 1) w1 H.length e) :
  MR (g.addE H.length ⟨w.heap.size, 0, 0⟩) (H ++ [e]) w1 ∧ Ev H.length g w (g.addE H.length ⟨w.heap.size, 0, 0⟩) w1 := by
 have old : ∀ {b : Nat}, b < w.heap.size → w1.heap[b]? = w.heap[b]? := fun {b} h => by rw [hh, Array.getElem?_push, if_neg (by omega)]
 have hsz : w1.heap.size = w.heap.size + 1 := by rw [hh, Array.size_push]
 have hgle : Gle H.length g (g.addE H.length ⟨w.heap.size, 0, 0⟩) := ⟨fun _ _ _ h => h, fun id hid => by simp only [Gh.addE]; rw [if_neg (by omega)]⟩
 refine ⟨⟨fun b o v hro => ?_, fun id x hx => ?_, fun b id ho => ?_⟩, ⟨hgle, fun b hb ho => ⟨?_, old hb⟩, by rw [hsz]; omega, hos, htp, hout⟩⟩
 ·have := hm.ro b o v hro
  rw [cell_of (old (block_lt this))]; exact this
 ·rw [List.length_append, List.length_singleton]
  rcases get_snoc hx with hx | ⟨rfl, rfl⟩
  ·refine (hm.ent id x hx).keep (lt_of_get hx) hgle (by omega) fun b hown => ?_
   have hb := (hm.ow _ _ hown).1
   refine ⟨?_, fun _ => rfl, old hb⟩
   simp only [Gh.addE]; rw [if_neg (by omega)]; exact hown
  ·refine he _ hgle (by simp [Gh.addE]) (by simp [Gh.addE]) (fun o => ?_) (by rw [hh, Array.getElem?_push, if_pos rfl])
   cases hro : g.ro w.heap.size o with
   | none => exact hro
   | some v => have := hm.ro_lt hro; omega
 ·simp only [Gh.addE] at ho
  by_cases hb : b = w.heap.size
  ·rw [if_pos hb] at ho; cases ho; exact ⟨by rw [hsz]; omega, by simp⟩
  ·rw [if_neg hb] at ho
   have := hm.ow b id ho
   exact ⟨by rw [hsz]; omega, by simp; omega⟩
 ·simp only [Gh.addE]; rw [if_neg (by omega)]; exact ho
section
variable {β : Type} {kd : IntKind} {v : β → AV}
abbrev ent (kd : IntKind) (v : β → AV) (l : List (Int × β)) : List (Value × AV) := l.map fun y => (.int kd y.1, v y.2)
theorem ent_keys {l : List (Int × β)} : (ent kd v l).Pairwise (fun x y => x.1 ≠ y.1) ↔ l.Pairwise fun x y => x.1 ≠ y.1 := by
 rw [List.pairwise_map]
 constructor <;> intro h <;> refine h.imp fun hab e => hab ?_
 ·rw [e]
 ·injection e
theorem mget_some {l : List (Int × β)} {k : Int} {b : β} (h : mget l k = some b) : (k, b) ∈ l := by
 unfold mget at h
 cases hf : l.find? fun y => y.1 == k with
 | none => rw [hf] at h; cases h
 | some y =>
  rw [hf] at h
  obtain ⟨y1, y2⟩ := y
  simp only [Option.map_some, Option.some.injEq] at h
  have := List.find?_some hf
  simp at this
  subst this h
  exact List.mem_of_find?_eq_some hf
theorem mget_none {l : List (Int × β)} {k : Int} (h : mget l k = none) : ∀ b, (k, b) ∉ l := fun b hb => by
 unfold mget at h
 rw [Option.map_eq_none_iff, List.find?_eq_none] at h
 exact h _ hb (by simp)
theorem mget_of_mem {l : List (Int × β)} (hk : l.Pairwise fun x y => x.1 ≠ y.1) {k : Int} {b : β} (h : (k, b) ∈ l) : mget l k = some b := by
 cases hg : mget l k with
 | none => exact absurd h (mget_none hg b)
 | some c =>
  have hc := mget_some hg
  have : ∀ {l : List (Int × β)}, l.Pairwise (fun x y => x.1 ≠ y.1) → (k, b) ∈ l → (k, c) ∈ l → b = c := fun {l} hp => by
   induction l with
   | nil => intro h; cases h
   | cons y l ih =>
    intro h1 h2
    rw [List.pairwise_cons] at hp
    rcases List.mem_cons.1 h1 with e1 | q1
    ·rcases List.mem_cons.1 h2 with e2 | q2
     ·rw [← e1] at e2; cases e2; rfl
     ·exact absurd (by rw [← e1]) (hp.1 _ q2)
    ·rcases List.mem_cons.1 h2 with e2 | q2
     ·exact absurd (by rw [← e2]) (hp.1 _ q1)
     ·exact ih hp.2 q1 q2
  rw [this hk h hc]
theorem mset_mem {l : List (Int × β)} {k : Int} {b : β} {y : Int × β} : y ∈ mset l k b ↔ y = (k, b) ∨ (y ∈ l ∧ y.1 ≠ k) := by
 unfold mset
 split
 ·rename_i ha
  rw [List.any_eq_true] at ha
  obtain ⟨z, hz, hzk⟩ := ha
  rw [List.mem_map]
  constructor
  ·rintro ⟨x, hx, rfl⟩
   split
   ·exact .inl rfl
   ·rename_i hne; exact .inr ⟨hx, by simpa using hne⟩
  ·rintro (rfl | ⟨h1, h2⟩)
   ·exact ⟨z, hz, by rw [if_pos hzk]⟩
   ·exact ⟨y, h1, by rw [if_neg (by simpa using h2)]⟩
 ·rename_i ha
  rw [List.mem_append, List.mem_singleton]
  constructor
  ·rintro (h | h)
   ·refine .inr ⟨h, fun e => ha ?_⟩
    rw [List.any_eq_true]; exact ⟨y, h, by simpa using e⟩
   ·exact .inl h
  ·rintro (h | h)
   ·exact .inr h
   ·exact .inl h.1
theorem mset_keys {l : List (Int × β)} (hk : l.Pairwise fun x y => x.1 ≠ y.1) (k : Int) (b : β) : (mset l k b).Pairwise fun x y => x.1 ≠ y.1 := by
 unfold mset
 split
 ·rw [List.pairwise_map]
  refine hk.imp fun {x y} h => ?_
  by_cases hx : x.1 = k <;> by_cases hy : y.1 = k
  ·exact absurd (hx.trans hy.symm) h
  ·simp [hx, hy]; exact Ne.symm hy
  ·simp [hx, hy]
  ·simp [hx, hy]; exact h
 ·rename_i ha
  rw [List.pairwise_append]
  refine ⟨hk, List.pairwise_singleton _ _, fun x hx y hy => ?_⟩
  rw [List.mem_singleton] at hy; subst hy
  intro e
  refine ha ?_
  rw [List.any_eq_true]; exact ⟨x, hx, by simpa using e⟩
theorem mset_length_in {l : List (Int × β)} {k : Int} {b c : β} (h : (k, c) ∈ l) : (mset l k b).length = l.length := by
 unfold mset
 rw [if_pos (by rw [List.any_eq_true]; exact ⟨_, h, by simp⟩), List.length_map]
theorem mset_length_out {l : List (Int × β)} {k : Int} {b : β} (h : mget l k = none) : (mset l k b).length = l.length + 1 := by
 unfold mset
 rw [if_neg, List.length_append, List.length_singleton]
 rw [List.any_eq_true]
 rintro ⟨y, hy, e⟩
 have : y.1 = k := by simpa using e
 exact mget_none h y.2 (by rw [← this]; exact hy)
theorem MapR.isKey {g : Gh} {n : Nat} {l : List (Int × β)} {ents : Array MapEntry} {clock : Nat} (hm : MapR g n (ent kd v l) ents clock) : ∀ x ∈ ents.toList, IsKey (.int kd) x.key := fun x hx => by
 obtain ⟨a, ha⟩ := hm.all x hx
 obtain ⟨y, _, hy⟩ := List.mem_map.1 ha
 have : x.key = .int kd y.1 := (congrArg Prod.fst hy).symm
 rw [this]; rfl
theorem MapR.find {g : Gh} {n : Nat} {l : List (Int × β)} {ents : Array MapEntry} {clock : Nat} (hm : MapR g n (ent kd v l) ents clock) (k : Int) :
  (Instr.findNow (.int kd) (.int kd k) ents.toList 0 = some none ∧ mget l k = none ∧ ∀ x ∈ ents.toList, x.key ≠ .int kd k) ∨
  ∃ j e b, Instr.findNow (.int kd) (.int kd k) ents.toList 0 = some (some (j, e.val)) ∧ ents[j]? = some e ∧ e.key = .int kd k ∧ mget l k = some b ∧ VR g n (v b) e.val := by
 have hkey : IsKey (.int kd) (.int kd k) := rfl
 have hlk := ent_keys.1 hm.keys
 rcases MapKept.findNow_spec hkey ents.toList 0 hm.isKey with ⟨h1, h2⟩ | ⟨j, e, h1, h2, h3⟩
 ·refine .inl ⟨h1, ?_, h2⟩
  cases hg : mget l k with
  | none => rfl
  | some b =>
   obtain ⟨x, x1, x2, _⟩ := hm.get (.int kd k) (v b) (List.mem_map.2 ⟨(k, b), mget_some hg, rfl⟩)
   exact absurd x2 (h2 x x1)
 ·right
  rw [Nat.zero_add] at h1
  have he : e ∈ ents.toList := List.mem_of_getElem? h2
  obtain ⟨a, ha⟩ := hm.all e he
  obtain ⟨y, hy, hya⟩ := List.mem_map.1 ha
  obtain ⟨y1, b⟩ := y
  have e1 : y1 = k := by have := congrArg Prod.fst hya; rw [h3] at this; injection this
  subst e1
  obtain ⟨x, x1, x2, x3⟩ := hm.get (.int kd y1) (v b) (List.mem_map.2 ⟨(y1, b), hy, rfl⟩)
  have hx : x = e := by
   have hn := (MapKept.stamped_iff _ _).1 hm.st
   exact entry_eq_of_key hn.2.2 x1 he (x2.trans h3.symm)
  subst hx
  exact ⟨j, x, b, h1, by simpa using h2, h3, mget_of_mem hlk hy, x3⟩
theorem push_toList {ents : Array MapEntry} {x y : MapEntry} : y ∈ (ents.push x).toList ↔ y ∈ ents.toList ∨ y = x := by simp
theorem MapR.push {g : Gh} {n : Nat} {l : List (Int × β)} {ents : Array MapEntry} {clock : Nat} (hm : MapR g n (ent kd v l) ents clock) {k : Int} (hk : ∀ x ∈ ents.toList, x.key ≠ .int kd k) (hg : mget l k = none) {b : β} {u : Value} (hv : VR g n (v b) u) :
  MapR g n (ent kd v (mset l k b)) (ents.push ⟨.int kd k, u, clock⟩) (clock + 1) := by
 refine ⟨MapKept.stamped_push hm.st hk, ?_, ent_keys.2 (mset_keys (ent_keys.1 hm.keys) k b), fun k' a ha => ?_, fun x hx => ?_⟩
 ·rw [Array.size_push, List.length_map, mset_length_out hg, hm.size, List.length_map]
 ·obtain ⟨y, hy, hya⟩ := List.mem_map.1 ha
  cases hya
  rcases mset_mem.1 hy with rfl | ⟨h1, h2⟩
  ·exact ⟨_, push_toList.2 (.inr rfl), rfl, hv⟩
  ·obtain ⟨x, x1, x2, x3⟩ := hm.get _ _ (List.mem_map.2 ⟨y, h1, rfl⟩)
   exact ⟨x, push_toList.2 (.inl x1), x2, x3⟩
 ·rcases push_toList.1 hx with hx | rfl
  ·obtain ⟨a, ha⟩ := hm.all x hx
   obtain ⟨y, hy, hya⟩ := List.mem_map.1 ha
   refine ⟨a, List.mem_map.2 ⟨y, mset_mem.2 (.inr ⟨hy, fun e => hk x hx ?_⟩), hya⟩⟩
   have := (congrArg Prod.fst hya).symm
   simp only at this
   rw [this, e]
  ·exact ⟨v b, List.mem_map.2 ⟨(k, b), mset_mem.2 (.inl rfl), rfl⟩⟩
theorem MapR.modify {g : Gh} {n : Nat} {l : List (Int × β)} {ents : Array MapEntry} {clock : Nat} (hm : MapR g n (ent kd v l) ents clock) {k : Int} {j : Nat} {e : MapEntry} (hj : ents[j]? = some e) (he : e.key = .int kd k) {b c : β} (hg : mget l k = some c) {u : Value} (hv : VR g n (v b) u) :
  MapR g n (ent kd v (mset l k b)) (ents.modify j fun e' => { e' with key := .int kd k, val := u }) clock := by
 have hkeyf : ∀ e', ents[j]? = some e' → ({ e' with key := .int kd k, val := u } : MapEntry).key = e'.key := fun e' h => by rw [hj] at h; cases h; exact he.symm
 have hn := (MapKept.stamped_iff _ _).1 hm.st
 have hej : e ∈ ents.toList := Array.mem_toList_iff.2 (Array.mem_of_getElem? hj)
 have hmem : ∀ x, x ∈ (ents.modify j fun e' => { e' with key := .int kd k, val := u }).toList ↔ x = { e with key := .int kd k, val := u } ∨ (x ∈ ents.toList ∧ x.key ≠ .int kd k) := fun x => by
  rw [Array.mem_toList_iff, Array.mem_iff_getElem?]
  constructor
  ·rintro ⟨i, hi⟩
   rw [Array.getElem?_modify] at hi
   by_cases hij : j = i
   ·subst hij
    rw [if_pos rfl, hj] at hi
    simp only [Option.map_some, Option.some.injEq] at hi
    exact .inl hi.symm
   ·rw [if_neg hij] at hi
    refine .inr ⟨Array.mem_toList_iff.2 (Array.mem_of_getElem? hi), fun e2 => hij ?_⟩
    have h1 : ents.toList[j]? = some e := by simpa using hj
    have h2 : ents.toList[i]? = some x := by simpa using hi
    have hp := List.pairwise_iff_getElem.1 hn.2.2
    have l1 := lt_of_get h1
    have l2 := lt_of_get h2
    rw [List.getElem?_eq_getElem l1] at h1
    rw [List.getElem?_eq_getElem l2] at h2
    have k1 := congrArg MapEntry.key (Option.some.inj h1)
    have k2 := congrArg MapEntry.key (Option.some.inj h2)
    rcases Nat.lt_trichotomy j i with h3 | h3 | h3
    ·exact absurd (k1.trans (he.trans (e2.symm.trans k2.symm))) (hp _ _ l1 l2 h3)
    ·exact h3
    ·exact absurd (k2.trans (e2.trans (he.symm.trans k1.symm))) (hp _ _ l2 l1 h3)
  ·rintro (rfl | ⟨h1, h2⟩)
   ·exact ⟨j, by rw [Array.getElem?_modify, if_pos rfl, hj]; rfl⟩
   ·obtain ⟨i, hi⟩ := Array.mem_iff_getElem?.1 (Array.mem_toList_iff.1 h1)
    refine ⟨i, ?_⟩
    rw [Array.getElem?_modify, if_neg]
    ·exact hi
    ·intro e2; subst e2; rw [hj] at hi; cases hi; exact h2 he
 refine ⟨MapKept.stamped_modify hm.st _ _ (fun _ _ => rfl) (fun e' _ h => hkeyf e' h), ?_, ent_keys.2 (mset_keys (ent_keys.1 hm.keys) k b), fun k' a ha => ?_, fun x hx => ?_⟩
 ·rw [Array.size_modify, List.length_map, mset_length_in (mget_some hg), hm.size, List.length_map]
 ·obtain ⟨y, hy, hya⟩ := List.mem_map.1 ha
  cases hya
  rcases mset_mem.1 hy with rfl | ⟨h1, h2⟩
  ·exact ⟨_, (hmem _).2 (.inl rfl), rfl, hv⟩
  ·obtain ⟨x, x1, x2, x3⟩ := hm.get _ _ (List.mem_map.2 ⟨y, h1, rfl⟩)
   exact ⟨x, (hmem _).2 (.inr ⟨x1, fun e2 => h2 (by rw [x2] at e2; injection e2)⟩), x2, x3⟩
 ·rcases (hmem x).1 hx with rfl | ⟨h1, h2⟩
  ·exact ⟨v b, List.mem_map.2 ⟨(k, b), mset_mem.2 (.inl rfl), rfl⟩⟩
  ·obtain ⟨a, ha⟩ := hm.all x h1
   obtain ⟨y, hy, hya⟩ := List.mem_map.1 ha
   refine ⟨a, List.mem_map.2 ⟨y, mset_mem.2 (.inr ⟨hy, fun e => h2 ?_⟩), hya⟩⟩
   have := (congrArg Prod.fst hya).symm
   simp only at this
   rw [this, e]
theorem MapR.perm {g : Gh} {n : Nat} {es es' : List (Value × AV)} {ents : Array MapEntry} {clock : Nat} (hm : MapR g n es ents clock) (hp : es.Perm es') : MapR g n es' ents clock :=
 ⟨hm.st, hm.size.trans hp.length_eq, hp.pairwise_iff (fun h => Ne.symm h) |>.1 hm.keys, fun k a h => hm.get k a (hp.mem_iff.2 h), fun x hx => let ⟨a, ha⟩ := hm.all x hx; ⟨a, hp.mem_iff.1 ha⟩⟩
theorem MapR.nil (g : Gh) (n : Nat) : MapR g n [] #[] 0 := ⟨MapKept.stamped_empty 0, rfl, .nil, (fun k a h => by cases h), (fun x h => by simp at h)⟩
end
theorem RebM.permM {H : Mem} {id : Nat} {es es' : List (Value × AV)} (hid : H[id]? = some (.map es)) (hp : es.Perm es') : RebM H (H.set id (.map es')) := .tell fun g w hm => by
 obtain ⟨h1, h2, ents, clock, h3, h4⟩ := hm.ent id _ hid
 exact ⟨h1, h2, ents, clock, h3, h4.perm hp⟩
section
variable {P : Program} {fr : Frm} {H : Mem} {dst : Option Nat} {ty : TypeId} {pos : String} {after : Array Edge} {guard : Option (Nat × Bool)}
theorem o_makeMap {t : TypeId} {H1 : Mem} (hM : H1 = H ++ [.map []]) : OpS P ⟨dst, .makeMap t none, ty, pos, after, guard⟩ fr H (Det (.mp H.length) H1) := fun g w ev hop hm => by
 have : (execOp ev ⟨dst, .makeMap t none, ty, pos, after, guard⟩).run P w = .ok (.value (.map (some w.heap.size))) (w.alloc (.map #[] 0)) := by
  simp only [execOp, Instr.makeMap, Option.map_none, Sem.run_bind, run_newObj]; rfl
 rw [this]
 obtain ⟨m1, m2⟩ := hm.pushO (w1 := w.alloc (.map #[] 0)) (e := .map []) rfl rfl rfl rfl fun g' hg hmu how hro hb => by
  simp only [EntR, hmu]
  exact ⟨how, hro, #[], 0, hb, .nil _ _⟩
 refine ⟨_, _, _, ⟨.refl _, hM.symm⟩, ?_, m1, m2, by simp⟩
 have := VR.mp (g := g.addE H.length ⟨w.heap.size, 0, 0⟩) (n := (H ++ [Ent.map []]).length) H.length (by simp)
 simpa [Gh.addE] using this
variable {β : Type} {kd : IntKind} {v : β → AV}
theorem opS_lookup {t kt e : TypeId} {x y : Operand} {ok : Bool} {K : AV → Mem → Prop} {id : Nat} {l : List (Int × β)} {n : Int} {sz by_ : Nat} {z : Value} (ht : P.underlying t = some (.map kt e)) (hk : P.underlying kt = some (.int kd)) (hti : tinf P e = some (sz, by_, some z))
  (hx : aev fr x = .mp id) (hid : H[id]? = some (.map (ent kd v l))) (hy : aev fr y = .sc (.int kd n))
  (h : match mget l n, ok with | some b, false => K (v b) H | some b, true => K (.tp [v b, .sc (.bool true)]) H | none, false => K (.sc z) H | none, true => K (.tp [.sc z, .sc (.bool false)]) H) :
  OpS P ⟨dst, .lookup t x y ok, ty, pos, after, guard⟩ fr H K := fun g w ev hop hm => by
 have h1 := hop x (by simp [Op.operands])
 have h2 := hop y (by simp [Op.operands])
 rw [hx] at h1
 rw [hy] at h2
 have e2 := VR_sc h2
 obtain ⟨e1, hlt⟩ : ev x = .map (some (g.mu id).b) ∧ id < H.length := by
  generalize ev x = u at h1
  cases h1 with
  | mp _ hid => exact ⟨rfl, hid⟩
 obtain ⟨q1, q2, ents, clock, hb, hmr⟩ := hm.ent id _ hid
 have hkey : IsKey (.int kd) (.int kd n) := rfl
 rcases hmr.find n with ⟨f1, f2, _⟩ | ⟨j, en, b, f1, f2, f3, f4, f5⟩
 ·have hr : (execOp ev ⟨dst, .lookup t x y ok, ty, pos, after, guard⟩).run P w = .ok (.value (if ok then .tuple #[z, .bool false] else z)) w := by
   simp only [execOp, Instr.lookup, Sem.run_bind, e1, e2, run_underlying ht, Result.andThen_ok, MapKept.run_getObj_map hb, Sem.run_pure, MapKept.run_checkKey hk hkey, MapKept.run_findKey hk f1, run_zeroValue hti]
  rw [hr]
  rw [f2] at h
  cases ok with
  | false => exact sr_here hm (.sc z) h
  | true => exact sr_here hm (.tp _ _ rfl fun i c hc => by
    match i with
    | 0 => simp at hc; subst hc; exact .sc _
    | 1 => simp at hc; subst hc; exact .sc _
    | i + 2 => simp at hc) h
 ·have hr : (execOp ev ⟨dst, .lookup t x y ok, ty, pos, after, guard⟩).run P w = .ok (.value (if ok then .tuple #[en.val, .bool true] else en.val)) w := by
   simp only [execOp, Instr.lookup, Sem.run_bind, e1, e2, run_underlying ht, Result.andThen_ok, MapKept.run_getObj_map hb, Sem.run_pure, MapKept.run_checkKey hk hkey, MapKept.run_findKey hk f1]
  rw [hr]
  rw [f4] at h
  cases ok with
  | false => exact sr_here hm f5 h
  | true => exact sr_here hm (.tp _ _ rfl fun i c hc => by
    match i with
    | 0 => simp at hc; subst hc; exact f5
    | 1 => simp at hc; subst hc; exact .sc _
    | i + 2 => simp at hc) h
theorem o_lookupS {t kt e : TypeId} {x y : Operand} {id : Nat} {l : List (Int × β)} {n : Int} {sz by_ : Nat} {z : Value} {b : β} (ht : P.underlying t = some (.map kt e)) (hk : P.underlying kt = some (.int kd)) (hti : tinf P e = some (sz, by_, some z))
  (hx : aev fr x = .mp id) (hid : H[id]? = some (.map (ent kd v l))) (hy : aev fr y = .sc (.int kd n)) (hg : mget l n = some b) : OpS P ⟨dst, .lookup t x y false, ty, pos, after, guard⟩ fr H (Det (v b) H) :=
 opS_lookup ht hk hti hx hid hy (by rw [hg]; exact ⟨.refl _, rfl⟩)
theorem o_lookupN {t kt e : TypeId} {x y : Operand} {id : Nat} {l : List (Int × β)} {n : Int} {sz by_ : Nat} {z : Value} {r : AV} (ht : P.underlying t = some (.map kt e)) (hk : P.underlying kt = some (.int kd)) (hti : tinf P e = some (sz, by_, some z))
  (hx : aev fr x = .mp id) (hid : H[id]? = some (.map (ent kd v l))) (hy : aev fr y = .sc (.int kd n)) (hg : mget l n = none) (hr : AVLe (.sc z) r) : OpS P ⟨dst, .lookup t x y false, ty, pos, after, guard⟩ fr H (Det r H) :=
 opS_lookup ht hk hti hx hid hy (by rw [hg]; exact ⟨hr, rfl⟩)
theorem o_mapUpdate {t kt e : TypeId} {x y u : Operand} {id : Nat} {l : List (Int × β)} {n : Int} {b : β} {H1 : Mem} (ht : P.underlying t = some (.map kt e)) (hk : P.underlying kt = some (.int kd))
  (hx : aev fr x = .mp id) (hid : H[id]? = some (.map (ent kd v l))) (hy : aev fr y = .sc (.int kd n)) (hu : AVLe (aev fr u) (v b)) (hM : H1 = H.set id (.map (ent kd v (mset l n b)))) :
  OpS P ⟨dst, .mapUpdate t x y u, ty, pos, after, guard⟩ fr H (Det undefA H1) := fun g w ev hop hm => by
 have h1 := hop x (by simp [Op.operands])
 have h2 := hop y (by simp [Op.operands])
 have h3 := hu _ _ _ (hop u (by simp [Op.operands]))
 rw [hx] at h1
 rw [hy] at h2
 have e2 := VR_sc h2
 obtain ⟨e1, hlt⟩ : ev x = .map (some (g.mu id).b) ∧ id < H.length := by
  generalize ev x = u at h1
  cases h1 with
  | mp _ hid => exact ⟨rfl, hid⟩
 obtain ⟨q1, q2, ents, clock, hb, hmr⟩ := hm.ent id _ hid
 have hkey : IsKey (.int kd) (.int kd n) := rfl
 have hbl := (hm.ow _ _ q1).1
 have fin : ∀ ents' clock', MapR g H.length (ent kd v (mset l n b)) ents' clock' → SR H.length g w (Det undefA H1) undef { w with heap := w.heap.setIfInBounds (g.mu id).b (.map ents' clock') } := fun ents' clock' hmr' => by
  have hupd : Upd w { w with heap := w.heap.setIfInBounds (g.mu id).b (.map ents' clock') } (g.mu id).b (.map ents' clock') := ⟨rfl, rfl, rfl, rfl⟩
  obtain ⟨m1, m2⟩ := hm.putO (e' := .map (ent kd v (mset l n b))) hlt q1 q2 hupd ⟨q1, q2, ents', clock', hupd.same hbl, hmr'⟩
  exact ⟨undefA, _, g, ⟨.refl _, hM.symm⟩, .sc _, m1, m2, by simp⟩
 rcases hmr.find n with ⟨f1, f2, f3⟩ | ⟨j, en, c, f1, f2, f3, f4, f5⟩
 ·have hr : (execOp ev ⟨dst, .mapUpdate t x y u, ty, pos, after, guard⟩).run P w = .ok .skip { w with heap := w.heap.setIfInBounds (g.mu id).b (.map (ents.push ⟨.int kd n, ev u, clock⟩) (clock + 1)) } := by
   simp only [execOp, Instr.mapUpdate, Sem.run_bind, e1, e2, run_underlying ht, Result.andThen_ok, MapKept.run_getObj_map hb, MapKept.run_checkKey hk hkey, MapKept.run_findKey hk f1, MapKept.run_setObj_map _ hb, Sem.run_pure]
  rw [hr]
  exact fin _ _ (hmr.push f3 f2 h3)
 ·have hr : (execOp ev ⟨dst, .mapUpdate t x y u, ty, pos, after, guard⟩).run P w = .ok .skip { w with heap := w.heap.setIfInBounds (g.mu id).b (.map (ents.modify j fun e' => { e' with key := .int kd n, val := ev u }) clock) } := by
   simp only [execOp, Instr.mapUpdate, Sem.run_bind, e1, e2, run_underlying ht, Result.andThen_ok, MapKept.run_getObj_map hb, MapKept.run_checkKey hk hkey, MapKept.run_findKey hk f1, f2, f3, Option.map_some, Option.getD_some, MapKept.run_keyThatStays hkey, MapKept.run_setObj_map _ hb, Sem.run_pure]
  rw [hr]
  exact fin _ _ (hmr.modify f2 f3 f4 h3)
theorem o_notNil {op : BinOp} {t t' e : TypeId} {x y : Operand} {z : Nat} {es : List (List PV)} {k : Tk} {b : Bool} (ht : P.underlying t = some (.slice e)) (hop : op = .eql ∧ b = false ∨ op = .neq ∧ b = true) (hx : aev fr x = .sl z es k) (hy : aev fr y = .sc (.slice none 0 0)) (hne : es ≠ []) :
  OpS P ⟨dst, .binOp op t x y t', ty, pos, after, guard⟩ fr H (Det (.sc (.bool b)) H) := opS_isNil hx hy (by
 rcases hop with ⟨rfl, rfl⟩ | ⟨rfl, rfl⟩
 ·simp only [aNil, ht]
  intro b hb
  cases b with
  | true => exact absurd (hb rfl) hne
  | false => exact ⟨.refl _, rfl⟩
 ·simp only [aNil, ht]
  intro b hb
  cases b with
  | true => exact absurd (hb rfl) hne
  | false => exact ⟨.refl _, rfl⟩)
end
end Go.Proofs.Ytpkcdabbijaklaa.Am
namespace Go.Proofs.Ytpkcdabbijaklaa.Am
open Go
open Go.ChangeMaps (setBlock)
open Go.MapKept (Stamped IsKey)
set_option linter.unusedVariables false
structure MapP (es : List (Value × AV)) (ents : Array MapEntry) (clock : Nat) : Prop where
 st : Stamped ents clock
 keys : es.Pairwise fun x y => x.1 ≠ y.1
 key : ∀ x, x ∈ ents.toList → ∃ a, (x.key, a) ∈ es
 ent : ∀ k a, (k, a) ∈ es → ∃ x, x ∈ ents.toList ∧ x.key = k
theorem MapR.p {g : Gh} {n : Nat} {es : List (Value × AV)} {ents : Array MapEntry} {clock : Nat} (h : MapR g n es ents clock) : MapP es ents clock :=
 ⟨h.st, h.keys, h.all, fun k a ha => let ⟨x, x1, x2, _⟩ := h.get k a ha; ⟨x, x1, x2⟩⟩
section
variable {P : Program} {fr : Frm} {H : Mem} {dst : Option Nat} {ty : TypeId} {pos : String} {after : Array Edge} {guard : Option (Nat × Bool)}
theorem opS_range {t kt e : TypeId} {x : Operand} {K : AV → Mem → Prop} {id : Nat} {es : List (Value × AV)} (ht : P.underlying t = some (.map kt e)) (hx : aev fr x = .mp id) (hid : H[id]? = some (.map es))
  (h : ∀ ents clock, MapP es ents clock → K (.pt H.length 0) (H.set id (.mpi es ents clock) ++ [.itr id clock #[] clock])) : OpS P ⟨dst, .range t x, ty, pos, after, guard⟩ fr H K := fun g w ev hop hm => by
 have h1 := hop x (by simp [Op.operands])
 rw [hx] at h1
 obtain ⟨e1, hlt⟩ : ev x = .map (some (g.mu id).b) ∧ id < H.length := by
  generalize ev x = u at h1
  cases h1 with
  | mp _ hid => exact ⟨rfl, hid⟩
 obtain ⟨q1, q2, ents, clock, hb, hmr⟩ := hm.ent id _ hid
 have hr : (execOp ev ⟨dst, .range t x, ty, pos, after, guard⟩).run P w = .ok (.value (.pointer (some ⟨w.heap.size, 0, none⟩))) (w.alloc (.mapIter (some (g.mu id).b) clock #[] clock)) := by
  simp only [execOp, Instr.range, Sem.run_bind, e1, run_underlying ht, Result.andThen_ok, MapKept.run_getObj_map hb, Sem.run_pure, run_newObj]
  rfl
 rw [hr]
 have hm1 := hm.retell (id := id) (e := .mpi es ents clock) ⟨q1, q2, hb, hmr⟩
 have hl : (H.set id (.mpi es ents clock)).length = H.length := by simp
 obtain ⟨m1, m2⟩ := hm1.pushO (w1 := w.alloc (.mapIter (some (g.mu id).b) clock #[] clock)) (o := .mapIter (some (g.mu id).b) clock #[] clock) (e := .itr id clock #[] clock) rfl rfl rfl rfl fun g' hg hmu how hro hb => by
  simp only [EntR, hmu]
  refine ⟨by rw [hl]; omega, how, hro, trivial, ?_⟩
  rw [hg.mu id (by rw [hl]; exact hlt)]; exact hb
 rw [hl] at m1 m2
 refine ⟨_, _, _, h ents clock hmr.p, ?_, m1, m2, by simp⟩
 have := VR.pt (g := g.addE H.length ⟨w.heap.size, 0, 0⟩) (n := (H.set id (.mpi es ents clock) ++ [Ent.itr id clock #[] clock]).length) H.length 0 (by simp)
 simpa [Gh.addE] using this
theorem opS_next {x : Operand} {K : AV → Mem → Prop} {id mid clock : Nat} {es : List (Value × AV)} {ents : Array MapEntry} {seen : Array Nat} (hx : aev fr x = .pt id 0) (hid : H[id]? = some (.itr mid clock seen clock)) (hmid : H[mid]? = some (.mpi es ents clock))
  (h0 : (∀ e ∈ ents.toList, seen.contains e.born = true) → K (.tp [.sc (.bool false)]) H) (h1 : ∀ e ∈ ents.toList, seen.contains e.born = false → K (.tp [.sc (.bool true), .any, .any]) (H.set id (.itr mid clock (seen.push e.born) clock))) :
  OpS P ⟨dst, .next x false, ty, pos, after, guard⟩ fr H K := fun g w ev hop hm => by
 have hv := hop x (by simp [Op.operands])
 rw [hx] at hv
 obtain ⟨p0, p1, p2, p3, p4⟩ := hm.ent id _ hid
 obtain ⟨q1, q2, hb, hmr⟩ := hm.ent mid _ hmid
 obtain ⟨e1, hlt⟩ : ev x = .pointer (some ⟨(g.mu id).b, 0, none⟩) ∧ id < H.length := by
  generalize ev x = u at hv
  cases hv with
  | pt _ _ hid => rw [p3]; exact ⟨rfl, hid⟩
 rcases run_next_at (P := P) w ty (g.mu id).b (g.mu mid).b clock clock seen ents clock p4 hb (fun x hx => hmr.st.1 x hx) (Nat.le_refl _) with ⟨z, hr⟩ | ⟨e, he, w1, hw, hr⟩
 ·have : (execOp ev ⟨dst, .next x false, ty, pos, after, guard⟩).run P w = .ok (.value (.tuple #[.bool false])) w := by
   simp only [execOp, e1, Sem.run_bind, hr, Result.andThen_ok, Sem.run_pure]
  rw [this]
  refine sr_here hm (.tp _ _ rfl fun i c hc => ?_) (h0 fun e he => ?_)
  ·match i with
   | 0 => simp at hc; subst hc; exact .sc _
   | i + 1 => simp at hc
  ·cases hs : seen.contains e.born with
   | true => rfl
   | false =>
    have hin : e ∈ leftOf ents seen := by
     unfold leftOf
     rw [Array.mem_filter]
     exact ⟨Array.mem_toList_iff.1 he, by rw [hs]; rfl⟩
    have := Array.size_pos_of_mem hin
    omega
 ·have hr2 : (execOp ev ⟨dst, .next x false, ty, pos, after, guard⟩).run P w = .ok (.value (.tuple #[.bool true, e.key, e.val])) (setBlock w1 (g.mu id).b (.mapIter (some (g.mu mid).b) clock (seen.push e.born) clock)) := by
   simp only [execOp, e1, Sem.run_bind, hr, Result.andThen_ok, Sem.run_pure]
  rw [hr2]
  obtain ⟨he1, he2⟩ : e ∈ ents.toList ∧ seen.contains e.born = false := by
   unfold leftOf at he
   rw [Array.mem_toList_iff, Array.mem_filter] at he
   exact ⟨Array.mem_toList_iff.2 he.1, by simpa using he.2⟩
  have hw' : w1.heap = w.heap ∧ w1.os = w.os ∧ w1.tape = w.tape ∧ w1.output = w.output := by rcases hw with rfl | rfl <;> exact ⟨rfl, rfl, rfl, rfl⟩
  have hupd : Upd w (setBlock w1 (g.mu id).b (.mapIter (some (g.mu mid).b) clock (seen.push e.born) clock)) (g.mu id).b (.mapIter (some (g.mu mid).b) clock (seen.push e.born) clock) := by
   refine ⟨?_, hw'.2.1, hw'.2.2.1, hw'.2.2.2⟩
   simp only [setBlock, hw'.1]
  obtain ⟨m1, m2⟩ := hm.putO (e' := .itr mid clock (seen.push e.born) clock) hlt p1 p2 hupd ⟨p0, p1, p2, p3, hupd.same (hm.ow _ _ p1).1⟩
  refine ⟨_, _, g, h1 e he1 he2, .tp _ _ rfl fun i c hc => ?_, m1, m2, by simp⟩
  match i with
  | 0 => simp at hc; subst hc; exact .sc _
  | 1 => simp at hc; subst hc; exact .any _
  | 2 => simp at hc; subst hc; exact .any _
  | i + 3 => simp at hc
theorem o_entry {β : Type} {kd : IntKind} {v : β → AV} {x : Operand} {id mid clock : Nat} {l : List (Int × β)} {ents : Array MapEntry} {seen : Array Nat} {e : MapEntry} {y : Int × β} (hx : aev fr x = .pt id 0)
  (hid : H[id]? = some (.itr mid clock (seen.push e.born) clock)) (hmid : H[mid]? = some (.mpi (ent kd v l) ents clock)) (he : e ∈ ents.toList) (hy : y ∈ l) (hk : e.key = .int kd y.1) :
  OpS P ⟨dst, .entry x, ty, pos, after, guard⟩ fr H (Det (.tp [.sc (.int kd y.1), v y.2]) H) := fun g w ev hop hm => by
 have hv := hop x (by simp [Op.operands])
 rw [hx] at hv
 obtain ⟨p0, p1, p2, p3, p4⟩ := hm.ent id _ hid
 obtain ⟨q1, q2, hb, hmr⟩ := hm.ent mid _ hmid
 obtain ⟨e1, hlt⟩ : ev x = .pointer (some ⟨(g.mu id).b, 0, none⟩) ∧ id < H.length := by
  generalize ev x = u at hv
  cases hv with
  | pt _ _ hid => rw [p3]; exact ⟨rfl, hid⟩
 have hr := run_entry_at (P := P) w (g.mu id).b (g.mu mid).b clock seen ents clock e p4 hb he hmr.st.2.1
 have hr2 : (execOp ev ⟨dst, .entry x, ty, pos, after, guard⟩).run P w = .ok (.value (.tuple #[e.key, e.val])) w := by
  simp only [execOp, e1, Sem.run_bind, hr, Result.andThen_ok, Sem.run_pure]
 rw [hr2]
 obtain ⟨x', x1, x2, x3⟩ := hmr.get (.int kd y.1) (v y.2) (List.mem_map.2 ⟨y, hy, rfl⟩)
 have hxe : x' = e := entry_eq_of_key ((MapKept.stamped_iff _ _).1 hmr.st).2.2 x1 he (x2.trans hk.symm)
 subst hxe
 refine sr_here hm (.tp _ _ rfl fun i c hc => ?_) ⟨.refl _, rfl⟩
 match i with
 | 0 => simp at hc; subst hc; rw [hk]; exact .sc _
 | 1 => simp at hc; subst hc; exact x3
 | i + 2 => simp at hc
end
theorem OpsS_range {P : Program} {ops : Array Oper} {rest : List Oper} {fr : Frm} {H : Mem} {K : Frm → Mem → Prop} {dst : Option Nat} {ty : TypeId} {pos : String} {after : Array Edge} {t kt e : TypeId} {x : Operand} {id : Nat} {es : List (Value × AV)}
  (hg : agd ops fr ⟨dst, .range t x, ty, pos, after, none⟩ = some true) (ht : P.underlying t = some (.map kt e)) (hx : aev fr x = .mp id) (hid : H[id]? = some (.map es))
  (h : ∀ ents clock, MapP es ents clock → OpsS P ops rest (fr.put dst (.pt H.length 0)) (H.set id (.mpi es ents clock) ++ [.itr id clock #[] clock]) K) : OpsS P ops (⟨dst, .range t x, ty, pos, after, none⟩ :: rest) fr H K := by
 simp only [OpsS, hg]
 exact opS_range ht hx hid h
theorem aw_keys {β : Type} {kd : IntKind} {v : β → AV} {P : Program} {N n0 : Nat} {c : Code} {fr : Frm} {H : Mem} {Q : Exit → Frm → Mem → Prop} {id : Nat} {l : List (Int × β)} (hid : H[id]? = some (.map (ent kd v l)))
  (h : (l.Pairwise fun x y => x.1 ≠ y.1) → aw P N n0 c fr H Q) : aw P N n0 c fr H Q := fun g w a hl hd hf hm => by
 obtain ⟨_, _, ents, clock, _, hmr⟩ := hm.ent id _ hid
 exact h (ent_keys.1 hmr.keys) g w a hl hd hf hm
theorem RebM.unpin {H : Mem} {id clock : Nat} {es : List (Value × AV)} {ents : Array MapEntry} (hid : H[id]? = some (.mpi es ents clock)) : RebM H (H.set id (.map es)) := .tell fun g w hm => by
 obtain ⟨h1, h2, h3, h4⟩ := hm.ent id _ hid
 exact ⟨h1, h2, ents, clock, h3, h4⟩
theorem len_le_of_sub {α : Type} : ∀ {a b : List α}, a.Nodup → (∀ x ∈ a, x ∈ b) → a.length ≤ b.length
 | [], _, _, _ => Nat.zero_le _
 | x :: a, b, hn, hs => by
  rw [List.nodup_cons] at hn
  obtain ⟨s, t, rfl⟩ := List.append_of_mem (hs x (List.mem_cons_self ..))
  have := len_le_of_sub (b := s ++ t) hn.2 fun y hy => by
   have := hs y (List.mem_cons_of_mem _ hy)
   rw [List.mem_append, List.mem_cons] at this
   rw [List.mem_append]
   rcases this with h | h | h
   ·exact .inl h
   ·subst h; exact absurd hy hn.1
   ·exact .inr h
  simp at this ⊢
  omega
theorem aw_rangeL {β : Type} {kd : IntKind} {v : β → AV} {P : Program} {N n0 : Nat} {fr : Frm} {H H1 : Mem} {Q : Exit → Frm → Mem → Prop} {l : List (Int × β)} {ents : Array MapEntry} {clock iid q it t9 t10 r1 b0 : Nat} {ty1 ty2 : TypeId} {p1 p2 : String} {a1 a2 : Array Edge} {body : Code}
  (hP : MapP (ent kd v l) ents clock) (F : Frm) (I : List (Int × β) → Array Nat → Mem → Prop) (hit : F it = .pt iid 0) (h9 : t9 < N) (h10 : t10 < N) (hI0 : I [] #[] H1) (hR : Reb N n0 fr F H H1)
  (hget : ∀ done seen M, I done seen M → M[iid]? = some (.itr q clock seen clock) ∧ M[q]? = some (.mpi (ent kd v l) ents clock))
  (hstep : ∀ done seen M e y, I done seen M → e ∈ ents.toList → y ∈ l → e.key = .int kd y.1 → (∀ z ∈ done, z.1 ≠ y.1) →
   aw P N n0 body ((F.put (some t9) (.tp [.sc (.bool true), .any, .any])).put (some t10) (.sc (.bool true))) (M.set iid (.itr q clock (seen.push e.born) clock)) (thenQ (fun fr' M' => ∃ M'', I (done ++ [y]) (seen.push e.born) M'' ∧ Reb N n0 fr' F M' M'') fun _ _ _ => False))
  (hfin : ∀ done seen M, I done seen M → (done.Pairwise fun x y => x.1 ≠ y.1) → (∀ y, y ∈ done ↔ y ∈ l) → Q .normal ((F.put (some t9) (.tp [.sc (.bool false)])).put (some t10) (.sc (.bool false))) M) :
  aw P N n0 (.block b0 (.loop (.seq (.region r1 #[⟨some t9, .next (.tmp it) false, ty1, p1, a1, none⟩, ⟨some t10, .extract (.tmp t9) 0, ty2, p2, a2, none⟩] false) (.seq (.cond (.tmp t10) .skip (.exit b0)) body)))) fr H Q := by
 refine aw_reb hR ?_
 have hlk := ent_keys.1 hP.keys
 have hst := (MapKept.stamped_iff _ _).1 hP.st
 let Rel : List (Int × β) → Array Nat → Prop := fun done seen => (done.Pairwise fun x y => x.1 ≠ y.1) ∧ (∀ y ∈ done, y ∈ l) ∧ ∀ e ∈ ents.toList, seen.contains e.born = true ↔ ∃ y ∈ done, e.key = .int kd y.1
 have hlen : ∀ done seen, Rel done seen → done.length ≤ l.length := fun done seen hr => by
  have hn : done.Nodup := hr.1.imp fun h e => h (by rw [e])
  exact len_le_of_sub hn hr.2.1
 refine aw_block (aw_loop (fun k fr' M => ∃ done seen, I done seen M ∧ Rel done seen ∧ fr' = F ∧ k = l.length - done.length) (k := l.length) ⟨[], #[], hI0, ⟨.nil, (fun y h => by cases h), (fun e he => by simp)⟩, rfl, by simp⟩ ?_)
 rintro k _ M ⟨done, seen, hI, hr, rfl, rfl⟩
 obtain ⟨g1, g2⟩ := hget done seen M hI
 refine aw_seq (aw_region (l := [_, _]) ?_ ?_)
 ·simp only [dstsLt, List.all_cons, List.all_nil, Bool.and_true, Bool.and_eq_true, decide_eq_true_eq]
  exact ⟨h9, h10⟩
 show OpsS P _ [_, _] _ _ _
 have hag : ∀ (o : Oper) (fr : Frm), o.guard = none → agd #[⟨some t9, .next (.tmp it) false, ty1, p1, a1, none⟩, ⟨some t10, .extract (.tmp t9) 0, ty2, p2, a2, none⟩] fr o = some true := fun o fr h => by unfold agd; rw [h]
 simp only [OpsS]
 rw [hag _ _ rfl]
 simp only [hag _ _ (show Oper.guard ⟨some t10, .extract (.tmp t9) 0, ty2, p2, a2, none⟩ = none from rfl)]
 refine opS_next (es := ent kd v l) (ents := ents) (seen := seen) (mid := q) (clock := clock) (id := iid) hit g1 g2 (fun hall => ?_) fun e he hs => ?_
 ·refine opS_extract (a := .sc (.bool false)) (vs := [.sc (.bool false)]) ?_ ?_ ?_
  ·simp [aev, Frm.put, Frm.set]
  ·rfl
  refine thenQ_n ?_
  refine aw_seq ?_
  refine aw_cond (b := false) (by simp [aev, Frm.put, Frm.set]) ?_
  rw [if_neg (by simp)]
  refine aw_exit ?_
  refine thenQ_exit ?_
  refine thenQ_exit ?_
  refine blockQ_exit ?_
  refine hfin done seen M hI hr.1 fun y => ⟨hr.2.1 y, fun hy => ?_⟩
  obtain ⟨x, x1, x2⟩ := hP.ent (.int kd y.1) (v y.2) (List.mem_map.2 ⟨y, hy, rfl⟩)
  obtain ⟨z, z1, z2⟩ := (hr.2.2 x x1).1 (hall x x1)
  have : z.1 = y.1 := by rw [x2] at z2; injection z2 with _ e; exact e.symm
  obtain ⟨zk, zb⟩ := z
  obtain ⟨yk, yb⟩ := y
  subst this
  have e1 := mget_of_mem hlk (hr.2.1 _ z1)
  have e2 := mget_of_mem hlk hy
  rw [e1] at e2
  cases e2
  exact z1
 ·refine opS_extract (a := .sc (.bool true)) (vs := [.sc (.bool true), .any, .any]) ?_ ?_ ?_
  ·simp [aev, Frm.put, Frm.set]
  ·rfl
  refine thenQ_n ?_
  refine aw_seq ?_
  refine aw_cond (b := true) (by simp [aev, Frm.put, Frm.set]) ?_
  rw [if_pos rfl]
  refine aw_skip ?_
  refine thenQ_n ?_
  obtain ⟨a, ha⟩ := hP.key e he
  obtain ⟨y, hy, hya⟩ := List.mem_map.1 ha
  have hk : e.key = .int kd y.1 := (congrArg Prod.fst hya).symm
  have hnew : ∀ z ∈ done, z.1 ≠ y.1 := fun z hz ez => by
   have := (hr.2.2 e he).2 ⟨z, hz, by rw [hk, ez]⟩
   rw [hs] at this; cases this
  refine aw.conseq (fun ex fr2 M2 qq => ?_) (hstep done seen M e y hI he hy hk hnew)
  cases ex with
  | normal =>
   obtain ⟨M'', i2, r2⟩ := qq
   have hr2 : Rel (done ++ [y]) (seen.push e.born) := by
    refine ⟨?_, fun z hz => ?_, fun x hx => ?_⟩
    ·rw [List.pairwise_append]
     exact ⟨hr.1, List.pairwise_singleton _ _, fun z hz z' hz' => by rw [List.mem_singleton] at hz'; subst hz'; exact hnew z hz⟩
    ·rcases List.mem_append.1 hz with hz | hz
     ·exact hr.2.1 z hz
     ·rw [List.mem_singleton] at hz; subst hz; exact hy
    ·rw [Array.contains_push, Bool.or_eq_true]
     constructor
     ·rintro (h | h)
      ·obtain ⟨z, z1, z2⟩ := (hr.2.2 x hx).1 h
       exact ⟨z, List.mem_append_left _ z1, z2⟩
      ·have hb : x.born = e.born := by first | exact by simpa using h | exact Eq.symm (by simpa using h)
       have hxe : x = e := by
        have hn := hst.2.1
        have h1 := List.getElem?_of_mem hx
        have h2 := List.getElem?_of_mem he
        obtain ⟨i, hi⟩ := h1
        obtain ⟨j, hj⟩ := h2
        have l1 := lt_of_get hi
        have l2 := lt_of_get hj
        have hp := List.pairwise_iff_getElem.1 hn
        rw [List.getElem?_eq_getElem l1] at hi
        rw [List.getElem?_eq_getElem l2] at hj
        have k1 := Option.some.inj hi
        have k2 := Option.some.inj hj
        rcases Nat.lt_trichotomy i j with h3 | h3 | h3
        ·have := hp i j (by simpa using l1) (by simpa using l2) h3
         simp only [List.getElem_map] at this
         exact absurd (by rw [k1, k2]; exact hb) this
        ·subst h3; rw [← k1, ← k2]
        ·have := hp j i (by simpa using l2) (by simpa using l1) h3
         simp only [List.getElem_map] at this
         exact absurd (by rw [k1, k2]; exact hb.symm) this
       exact ⟨y, List.mem_append_right _ (by simp), by rw [hxe]; exact hk⟩
     ·rintro ⟨z, z1, z2⟩
      rcases List.mem_append.1 z1 with z1 | z1
      ·exact .inl ((hr.2.2 x hx).2 ⟨z, z1, z2⟩)
      ·rw [List.mem_singleton] at z1
       subst z1
       right
       have : x = e := entry_eq_of_key hst.2.2 hx he (z2.trans hk.symm)
       rw [this]; simp
   have hl2 := hlen _ _ hr2
   rw [List.length_append, List.length_singleton] at hl2
   exact ⟨_, _, r2, l.length - (done ++ [y]).length, by rw [List.length_append, List.length_singleton]; omega, done ++ [y], seen.push e.born, i2, hr2, rfl, rfl⟩
  | _ => exact qq.elim
theorem aw_rangeM {β : Type} {kd : IntKind} {v : β → AV} {P : Program} {N n0 : Nat} {fr : Frm} {H H1 : Mem} {Q : Exit → Frm → Mem → Prop} {l : List (Int × β)} {ents : Array MapEntry} {clock iid q it t9 t10 r1 b0 : Nat} {ty1 ty2 : TypeId} {p1 p2 : String} {a1 a2 : Array Edge} {body : Code}
  (hP : MapP (ent kd v l) ents clock) (F : Frm) (I : List (Int × β) → Array Nat → Mem → Prop) (hit : F it = .pt iid 0) (h9 : t9 < N) (h10 : t10 < N) (hI0 : I [] #[] H1) (hR : Reb N n0 fr F H H1)
  (hget : ∀ done seen M, I done seen M → M[iid]? = some (.itr q clock seen clock) ∧ M[q]? = some (.mpi (ent kd v l) ents clock))
  (hstep : ∀ done seen M e y, I done seen M → e ∈ ents.toList → y ∈ l → e.key = .int kd y.1 → (∀ z ∈ done, z.1 ≠ y.1) →
   aw P N n0 body ((F.put (some t9) (.tp [.sc (.bool true), .any, .any])).put (some t10) (.sc (.bool true))) (M.set iid (.itr q clock (seen.push e.born) clock)) (thenQ (fun fr' M' => ∃ M'', I (done ++ [y]) (seen.push e.born) M'' ∧ Reb N n0 fr' F M' M'') fun _ _ _ => False))
  (hfin : ∀ done seen M, I done seen M → (done.Pairwise fun x y => x.1 ≠ y.1) → (∀ y, y ∈ done ↔ y ∈ l) → ∃ M'', RebM M M'' ∧ Q .normal ((F.put (some t9) (.tp [.sc (.bool false)])).put (some t10) (.sc (.bool false))) M'') :
  aw P N n0 (.block b0 (.loop (.seq (.region r1 #[⟨some t9, .next (.tmp it) false, ty1, p1, a1, none⟩, ⟨some t10, .extract (.tmp t9) 0, ty2, p2, a2, none⟩] false) (.seq (.cond (.tmp t10) .skip (.exit b0)) body)))) fr H Q :=
 aw.conseq (Q := fun e fr M => match e with | .normal => ∃ M'', RebM M M'' ∧ Q .normal fr M'' | _ => False) (fun e fr M q => by
  cases e with
  | normal => obtain ⟨M'', r, q⟩ := q; exact ⟨_, _, .ofM r, q⟩
  | _ => exact q.elim) (aw_rangeL hP F I hit h9 h10 hI0 hR hget hstep hfin)
theorem tok_neE {M : Mem} {i j : Nat} {x : Ent} (h : M[i]? = some x) (h2 : M[j]? = some .tok) (hx : x ≠ .tok := by simp) : i ≠ j := fun e => by rw [e, h2] at h; cases h; exact hx rfl
section
variable {β : Type}
theorem munion_snoc (s n : List (Int × β)) (y : Int × β) : munion s (n ++ [y]) = mset (munion s n) y.1 y.2 := by simp [munion, List.foldl_append]
theorem munion_keys {s n : List (Int × β)} (hs : s.Pairwise fun x y => x.1 ≠ y.1) : (munion s n).Pairwise fun x y => x.1 ≠ y.1 := by
 unfold munion
 induction n generalizing s with
 | nil => exact hs
 | cons y n ih => exact ih (mset_keys hs _ _)
theorem munion_mem {s n : List (Int × β)} (hn : n.Pairwise fun x y => x.1 ≠ y.1) {z : Int × β} : z ∈ munion s n ↔ z ∈ n ∨ (z ∈ s ∧ ∀ y ∈ n, y.1 ≠ z.1) := by
 unfold munion
 induction n generalizing s with
 | nil => simp
 | cons y n ih =>
  rw [List.pairwise_cons] at hn
  rw [List.foldl_cons, ih hn.2, mset_mem, List.mem_cons]
  constructor
  ·rintro (h | ⟨h1 | ⟨h1, h2⟩, h3⟩)
   ·exact .inl (.inr h)
   ·exact .inl (.inl h1)
   ·refine .inr ⟨h1, fun x hx => ?_⟩
    rcases List.mem_cons.1 hx with rfl | hx
    ·exact Ne.symm h2
    ·exact h3 x hx
  ·rintro ((rfl | h) | ⟨h1, h2⟩)
   ·exact .inr ⟨.inl rfl, fun x hx => Ne.symm (hn.1 x hx)⟩
   ·exact .inl h
   ·exact .inr ⟨.inr ⟨h1, Ne.symm (h2 y (List.mem_cons_self ..))⟩, fun x hx => h2 x (List.mem_cons_of_mem _ hx)⟩
theorem nodup_of_keys {l : List (Int × β)} (h : l.Pairwise fun x y => x.1 ≠ y.1) : l.Nodup := h.imp fun h e => h (by rw [e])
theorem munion_perm {s n n' : List (Int × β)} (hs : s.Pairwise fun x y => x.1 ≠ y.1) (hn : n.Pairwise fun x y => x.1 ≠ y.1) (hn' : n'.Pairwise fun x y => x.1 ≠ y.1) (hm : ∀ y, y ∈ n ↔ y ∈ n') : (munion s n).Perm (munion s n') := by
 refine (List.perm_ext_iff_of_nodup (nodup_of_keys (munion_keys hs)) (nodup_of_keys (munion_keys hs))).2 fun z => ?_
 rw [munion_mem hn, munion_mem hn', hm]
 constructor <;> rintro (h | ⟨h1, h2⟩)
 ·exact .inl h
 ·exact .inr ⟨h1, fun y hy => h2 y ((hm y).2 hy)⟩
 ·exact .inl h
 ·exact .inr ⟨h1, fun y hy => h2 y ((hm y).1 hy)⟩
end
end Go.Proofs.Ytpkcdabbijaklaa.Am
namespace Go.Proofs.Ytpkcdabbijaklaa.Am
open Go
set_option linter.unusedVariables false
section
variable {P : Program} {fr : Frm} {H : Mem} {dst : Option Nat} {ty : TypeId} {pos : String} {after : Array Edge} {guard : Option (Nat × Bool)}
end
end Go.Proofs.Ytpkcdabbijaklaa.Am
namespace Go.Proofs.Ytpkcdabbijaklaa.Am
open Go
set_option linter.unusedVariables false
section
variable {P : Program} {fr : Frm} {H : Mem} {K : AV → Mem → Prop} {dst : Option Nat} {ty : TypeId} {pos : String} {after : Array Edge} {guard : Option (Nat × Bool)}
end
end Go.Proofs.Ytpkcdabbijaklaa.Am
namespace Go.Proofs.Ytpkcdabbijaklaa.Am
open Go
set_option linter.unusedVariables false
section
variable {P : Program} {fr : Frm} {H : Mem} {K : AV → Mem → Prop} {dst : Option Nat} {ty : TypeId} {pos : String} {after : Array Edge} {guard : Option (Nat × Bool)}
end
end Go.Proofs.Ytpkcdabbijaklaa.Am
namespace Go.Proofs.Ytpkcdabbijaklaa.Am
open Go
abbrev kI (n : Int) : AV := .sc (.int .i64 n)
abbrev kY (n : Int) : AV := .sc (.int .u8 n)
abbrev kU (n : Int) : AV := .sc (.int .u64 n)
abbrev kB (b : Bool) : AV := .sc (.bool b)
abbrev w64 (n : Int) : Int := IntKind.wrap .i64 n
theorem eqM {M M1 : Mem} {e : Nat} {x : Ent} (hM : M1 = M) (h : M[e]? = some x) : M1[e]? = some x := hM ▸ h
theorem eqP {H M M1 : Mem} (hM : M1 = M) (h : H <+: M) : H <+: M1 := hM ▸ h
theorem rf {a : AV} : AVLe a a := .refl a
theorem sI {α : Type} {a b : α} (h : some a = some b) : a = b := Option.some.inj h
theorem sz (n : Nat) : n + 1 ≠ 0 := Nat.succ_ne_zero n
theorem nM (x : Mem) : ∃ z, z = x := ⟨x, rfl⟩
theorem nE (x : Nat) : ∃ z, z = x := ⟨x, rfl⟩
theorem loE {H M : Mem} {e : Nat} (he : e = M.length) (hp : H <+: M) : H.length ≤ e := by rw [he]; exact pre_len hp
theorem neE {M : Mem} {e e2 : Nat} {x : Ent} (he : e2 = M.length) (f : M[e]? = some x) : e ≠ e2 := by rw [he]; exact Nat.ne_of_lt (lt_of_get f)
theorem nwE {M M1 : Mem} {e : Nat} {x : Ent} (hM : M1 = M ++ [x]) (he : e = M.length) : M1[e]? = some x := by rw [hM, he]; exact get_new
section
variable {P : Program} {ops : Array Oper} {o : Oper} {rest : List Oper} {fr : Frm} {H : Mem} {K : Frm → Mem → Prop} {J : Mem → Prop} {T : Bool} {B : Mem} {cs : List Nat}
theorem OD (r : AV) (H1 : Mem) (hg : agd ops fr o = some true) (h : OpS P o fr H (Det r H1)) (h2 : OpsS P ops rest (fr.put o.dst r) H1 K) : OpsS P ops (o :: rest) fr H K := OpsS_det r H1 hg h h2
theorem DD0 (r : AV) (hg : agd ops fr o = some true) (h : ∀ H0 : Mem, OpS P o fr H0 (Det r H0)) (h2 : DRun P J T ops cs rest (fr.put o.dst r) B H K) : DRun P J T ops (0 :: cs) (o :: rest) fr B H K := DRun_det0 r hg h h2
theorem DD4 (r : AV) (hg : agd ops fr o = some true) (h : ∀ H0 : Mem, J H0 → OpS P o fr H0 (Det r H0)) (h2 : DRun P J T ops cs rest (fr.put o.dst r) B H K) : DRun P J T ops (0 :: cs) (o :: rest) fr B H K := DRun_det4 r hg h h2
theorem DD1 (r : AV) (hg : agd ops fr o = some true) (h : ∀ H0 : Mem, B <+: H0 → OpS P o fr H0 (Det r H0)) (h2 : DRun P J T ops cs rest (fr.put o.dst r) B H K) : DRun P J T ops (1 :: cs) (o :: rest) fr B H K := DRun_det1 r hg h h2
theorem DD2 (r : AV) (H1 : Mem) (hg : agd ops fr o = some true) (h : OpS P o fr H (Det r H1)) (hJ : J H1) (h2 : DRun P J T ops cs rest (fr.put o.dst r) H1 H1 K) : DRun P J T ops (2 :: cs) (o :: rest) fr B H K := DRun_det2 r H1 hg h hJ h2
theorem DD3 (r : AV) (H1 : Mem) (hg : agd ops fr o = some true) (h : OpS P o fr H (Det r H1)) (hp : H <+: H1) (hJ : J H1) (h2 : DRun P J T ops cs rest (fr.put o.dst r) B H1 K) : DRun P J T ops (3 :: cs) (o :: rest) fr B H K := DRun_det3 r H1 hg h hp hJ h2
end
section
variable {P : Program} {ops : Array Oper} {rest : List Oper} {fr : Frm} {H : Mem} {K : Frm → Mem → Prop} {dst : Option Nat} {ty : TypeId} {pos : String} {after : Array Edge} {guard : Option (Nat × Bool)}
end
end Go.Proofs.Ytpkcdabbijaklaa.Am
namespace Go.Proofs.Ytpkcdabbijaklaa.Am
open Go
set_option linter.unusedVariables false
theorem execOp_same {ρ : Operand → Value} {o o' : Oper} (h1 : o'.dst = o.dst) (h2 : o'.op = o.op) (h3 : o'.type = o.type) (h4 : o'.pos = o.pos) : execOp ρ o' = execOp ρ o := by
 obtain ⟨d, x, t, ps, a, g⟩ := o
 obtain ⟨d', x', t', ps', a', g'⟩ := o'
 simp only at h1 h2 h3 h4
 subst h1 h2 h3 h4
 rfl
theorem wpOp_sim {P : Program} {Q : Exit → Act → World → Prop} {l l' : List Oper} {i j : Nat} {o o' : Oper} (ho : l[i]? = some o) (g1 : l'[j]? = some o') (g2 : o'.dst = o.dst) (g3 : o'.op = o.op) (g4 : o'.type = o.type) (g5 : o'.pos = o.pos) {a : Act} {w : World}
  (g6 : Region.wanted o' (yielded l'.toArray a.tmps) = Region.wanted o (yielded l.toArray a.tmps)) {K K' : Act → World → Prop} (hK : ∀ a w, K' a w → K a w) (hw : wpOp P l'.toArray Q j K' a w) : wpOp P l.toArray Q i K a w := by
 unfold wpOp at hw ⊢
 have e1 : l.toArray[i]? = some o := by simpa using ho
 have e2 : l'.toArray[j]? = some o' := by simpa using g1
 rw [e1]
 rw [e2] at hw
 simp only at hw ⊢
 rw [g6] at hw
 have ex : ∀ ρ, execOp ρ o' = execOp ρ o := fun ρ => execOp_same g2 g3 g4 g5
 split
 ·rename_i hwt
  rw [if_pos hwt] at hw
  rcases hw with hw | hw
  ·left
   have hw2 := Oper.wp_mono hK hw
   unfold Oper.wp at hw2 ⊢
   rw [ex] at hw2
   unfold Oper.upon at hw2 ⊢
   rw [g2] at hw2
   exact hw2
  ·right
   refine ⟨?_, hw.2⟩
   have := hw.1
   unfold Oper.asks at this ⊢
   rw [ex] at this
   exact this
 ·rename_i hwt
  rw [if_neg hwt] at hw
  rw [← g2]
  exact hK _ _ hw
theorem rdy {l : List Oper} {x : Array Bool} {i : Nat} : i ∈ Region.ready .any l.toArray x ↔ i < x.size ∧ x.getD i false = false ∧ ∃ o, l[i]? = some o ∧ ∀ e ∈ o.after, Region.binds .any e = true → x.getD e.on false = true := by
 rw [mem_ready]
 constructor
 ·rintro ⟨h, o, ho, he⟩
  have hi : i < x.size := by
   rcases Nat.lt_or_ge i x.size with q | q
   ·exact q
   ·simp [Nat.not_lt.2 q] at h
  exact ⟨hi, by simpa [hi] using h, o, by simpa using ho, he⟩
 ·rintro ⟨hi, h, o, ho, he⟩
  exact ⟨by simpa [hi] using h, o, by simpa using ho, he⟩
def swI (p i : Nat) : Nat := if i = p then p + 1 else if i = p + 1 then p else i
theorem swI_lo {p i : Nat} (h : i < p) : swI p i = i := by unfold swI; rw [if_neg (by omega), if_neg (by omega)]
theorem swI_q (p : Nat) : swI p (p + 1) = p := by simp [swI]
def addE (k : Nat) (o : Oper) : Oper := ⟨o.dst, o.op, o.type, o.pos, (o.after.toList ++ [(⟨k, .data⟩ : Edge)]).toArray, o.guard⟩
theorem wanted_same {l l' : List Oper} {σ : Nat → Nat} (hd : ∀ j, (l'[σ j]?).map Oper.dst = (l[j]?).map Oper.dst) {o o' : Oper} (hg : o'.guard = o.guard.map fun x => (σ x.1, x.2)) (tm : Array Value) :
  Region.wanted o' (yielded l'.toArray tm) = Region.wanted o (yielded l.toArray tm) := by
 have hy : ∀ j, yielded l'.toArray tm (σ j) = yielded l.toArray tm j := fun j => by
  have := hd j
  unfold yielded
  simp only [List.getElem?_toArray]
  cases h1 : l'[σ j]? with
  | none =>
   rw [h1] at this
   cases h2 : l[j]? with
   | none => rfl
   | some o => rw [h2] at this; cases this
  | some o' =>
   rw [h1] at this
   cases h2 : l[j]? with
   | none => rw [h2] at this; cases this
   | some o =>
    rw [h2] at this
    simp only [Option.map_some, Option.some.injEq] at this
    simp only [Option.bind_some, this]
 unfold Region.wanted
 rw [hg]
 cases o.guard with
 | none => rfl
 | some x => simp only [Option.map_some, hy]
section
variable {pre post : List Oper} {op oq : Oper}
end
theorem agd_same {ops ops' : Array Oper} {o : Oper} (h : ∀ j b, o.guard = some (j, b) → (ops'[j]?).bind (·.dst) = (ops[j]?).bind (·.dst)) (fr : Frm) : agd ops' fr o = agd ops fr o := by
 unfold agd
 cases hg : o.guard with
 | none => rfl
 | some x =>
  obtain ⟨j, b⟩ := x
  simp only
  rw [h j b hg]
theorem DStep.ops {P : Program} {J : Mem → Prop} {z : Prop} {ops ops' : Array Oper} {c : Nat} {o : Oper} {fr : Frm} {B H : Mem} {r : AV} {H' : Mem} (h : DStep P J z ops c o fr B H r H') (hg : agd ops' fr o = agd ops fr o) : DStep P J z ops' c o fr B H r H' := by
 unfold DStep at h ⊢
 rw [hg]
 exact h
theorem Trace.cons {P : Program} {J : Mem → Prop} {T : Bool} {ops : Array Oper} {o : Oper} {rest : List Oper} {c : Nat} {cls : List Nat} {fr : Frm} {B H H' : Mem} {r : AV} {F : Nat → Frm} {R : Nat → AV} {M Bs : Nat → Mem}
  (hs : DStep P J (T = true ∧ rest = []) ops c o fr B H r H') (ht : Trace P J T ops rest cls F R M Bs) (h1 : F 0 = fr.put o.dst r) (h2 : M 0 = H') (h4 : Bs 0 = if c = 2 then H' else B) :
  Trace P J T ops (o :: rest) (c :: cls) (fun i => if i = 0 then fr else F (i - 1)) (fun i => if i = 0 then r else R (i - 1)) (fun i => if i = 0 then H else M (i - 1)) (fun i => if i = 0 then B else Bs (i - 1)) := ⟨fun i o' ho => by
 cases i with
 | zero =>
  simp at ho
  subst ho
  simp only [if_true, Nat.zero_add, Nat.one_ne_zero, if_false, Nat.sub_self, h1, h2, h4]
  have hs := hs.to (z' := T = true ∧ 1 = (o :: rest).length) fun ⟨q1, q2⟩ => ⟨q1, by rw [q2]; rfl⟩
  exact ⟨by simpa using hs, trivial, by simp⟩
 | succ i =>
  simp only [List.getElem?_cons_succ] at ho
  have := ht.step i o' ho
  simp only [Nat.succ_ne_zero, if_false, Nat.add_sub_cancel]
  refine ⟨?_, this.2.1, ?_⟩
  ·have q := this.1.to (z' := T = true ∧ i + 1 + 1 = (o :: rest).length) fun ⟨q1, q2⟩ => ⟨q1, by rw [List.length_cons, q2]⟩
   simpa using q
  ·simpa using this.2.2⟩
end Go.Proofs.Ytpkcdabbijaklaa.Am
namespace Go.Proofs.Ytpkcdabbijaklaa.Am
open Go
theorem Reb.none1 {N : Nat} {fr : Frm} {H M : Mem} {t z : Nat} (hb : MBd H) (hp : H <+: M) (ht : fr t = .sc (.slice Option.none 0 0)) :
  Reb N H.length fr (Frm.of [(t, .hs H.length 0 0 0 z)]) M (H ++ [.cells []]) := by
 obtain ⟨tl, rfl⟩ := hp
 refine (Reb.drop (l := [(t, .sc (.slice Option.none 0 0))]) (Nat.le_refl _) hb ⟨by rw [ht]; exact .sc _, trivial⟩).trans (Reb.none ⟨?_, trivial⟩)
 simp only [Frm.of, if_true]; exact AVLt.hn _ _
end Go.Proofs.Ytpkcdabbijaklaa.Am
namespace Go.Proofs.Ytpkcdabbijaklaa.Am
open Go
def AV.et : AV → Option AV
 | .any => some .any
 | .sc v => some (.sc v)
 | .sl z es k => some (.sl z es k)
 | .ag cs => some (.ag cs)
 | .tp vs => some (.tp vs)
 | .pt id off => some (.pt id off)
 | .ep cs => some (.ep cs)
 | .hs id off len mc s => some (.hs id off len mc s)
 | .mp id => some (.mp id)
 | .fn f first caps => some (.fn f first caps)
theorem AV.et_some {a r : AV} (h : a.et = some r) : r = a := by cases a <;> (cases h; rfl)
def pOp (ops : Array Oper) (fr : Frm) (o : Oper) : Option AV :=
 match agd ops fr o with
 | some false => some undefA
 | some true =>
  (match o.op with
  | .move x => (aev fr x).et
  | .assign x => (aev fr x).et
  | .pick c x y => (match aev fr c with | .sc (.bool true) => (aev fr x).et | .sc (.bool false) => (aev fr y).et | _ => none)
  | .binOp op _ x y _ => (match op with
   | .shl => none
   | .shr => none
   | op => (match aev fr x, aev fr y with | .sc (.int k a), .sc (.int k' b) => if k = k' then (match intBin op k a b with | some v => some (.sc v) | none => none) else none | _, _ => none))
  | .unOp op _ x => (match aUn op (aev fr x) with | some v => some (.sc v) | none => none)
  | .extract x i => (match aev fr x with | .tp vs => (match vs[i]? with | some a => a.et | none => none) | _ => none)
  | _ => none)
 | none => none
theorem pOp_some {P : Program} {ops : Array Oper} {fr : Frm} {o : Oper} {r : AV} (h : pOp ops fr o = some r) : (agd ops fr o = some false ∧ r = undefA) ∨ (agd ops fr o = some true ∧ ∀ H, OpS P o fr H (Det r H)) := by
 obtain ⟨dst, op, ty, pos, after, guard⟩ := o
 unfold pOp at h
 split at h
 ·rename_i hg
  cases h
  exact .inl ⟨hg, rfl⟩
 ·rename_i hg
  refine .inr ⟨hg, fun H => ?_⟩
  simp only at h
  split at h
  ·obtain rfl := AV.et_some h; exact o_move (.refl _)
  ·obtain rfl := AV.et_some h; exact o_assign (.refl _)
  ·split at h
   ·rename_i hc; obtain rfl := AV.et_some h; exact o_pick (b := true) hc (.refl _)
   ·rename_i hc; obtain rfl := AV.et_some h; exact o_pick (b := false) hc (.refl _)
   ·cases h
  ·split at h
   ·cases h
   ·cases h
   ·rename_i h1 h2
    split at h
    ·rename_i hx hy
     split at h
     ·rename_i e
      subst e
      split at h
      ·rename_i hv; cases h
       exact o_int hx hy (by split <;> first | rfl | (exact absurd rfl h1) | (exact absurd rfl h2)) hv
      ·cases h
     ·cases h
    ·cases h
  ·split at h
   ·rename_i hv; cases h; exact opS_unOp hv ⟨.refl _, rfl⟩
   ·cases h
  ·split at h
   ·rename_i hx
    split at h
    ·rename_i ha; obtain rfl := AV.et_some h; exact o_extract hx ha
    ·cases h
   ·cases h
  ·cases h
 ·cases h
def pRun (ops : Array Oper) : Nat → List Oper → Frm → Option (List Oper × Frm)
 | 0, l, fr => some (l, fr)
 | _ + 1, [], _ => none
 | n + 1, o :: l, fr => match pOp ops fr o with | some r => pRun ops n l (fr.put o.dst r) | none => none
def pRunD (ops : Array Oper) : Nat → List Nat → List Oper → Frm → Option (List Nat × List Oper × Frm)
 | 0, cs, l, fr => some (cs, l, fr)
 | n + 1, c :: cs, o :: l, fr =>
  (match agd ops fr o with
  | some false => if c = 2 then none else pRunD ops n cs l (fr.put o.dst undefA)
  | _ => if c = 0 then (match pOp ops fr o with | some r => pRunD ops n cs l (fr.put o.dst r) | none => none) else none)
 | _ + 1, _, _, _ => none
section
variable {P : Program} {ops : Array Oper} {H B : Mem} {K : Frm → Mem → Prop} {J : Mem → Prop} {T : Bool}
theorem OR (n : Nat) : ∀ {l l' : List Oper} {fr fr' : Frm}, pRun ops n l fr = some (l', fr') → OpsS P ops l' fr' H K → OpsS P ops l fr H K := by
 induction n with
 | zero => intro l l' fr fr' h h2; cases h; exact h2
 | succ n ih =>
  intro l l' fr fr' h h2
  cases l with
  | nil => cases h
  | cons o l =>
   simp only [pRun] at h
   split at h
   ·rename_i r hr
    rcases pOp_some (P := P) hr with ⟨hg, rfl⟩ | ⟨hg, ho⟩
    ·exact OpsS_skip hg (ih h h2)
    ·exact OpsS_det r H hg (ho H) (ih h h2)
   ·cases h
theorem DR (n : Nat) : ∀ {cs cs' : List Nat} {l l' : List Oper} {fr fr' : Frm}, pRunD ops n cs l fr = some (cs', l', fr') → DRun P J T ops cs' l' fr' B H K → DRun P J T ops cs l fr B H K := by
 induction n with
 | zero => intro cs cs' l l' fr fr' h h2; cases h; exact h2
 | succ n ih =>
  intro cs cs' l l' fr fr' h h2
  unfold pRunD at h
  split at h
  ·rename_i e; cases e
  ·rename_i c cs2 o l2 fr2 en
   cases en
   split at h
   ·rename_i hg
    split at h
    ·cases h
    ·rename_i hc; exact DRun_skipN hc hg (ih h h2)
   ·split at h
    ·rename_i hc
     subst hc
     split at h
     ·rename_i r hr
      rcases pOp_some (P := P) hr with ⟨hg, rfl⟩ | ⟨hg, ho⟩
      ·exact DRun_skipN (by decide) hg (ih h h2)
      ·exact DRun_det0 r hg ho (ih h h2)
     ·cases h
    ·cases h
  ·cases h
end
end Go.Proofs.Ytpkcdabbijaklaa.Am
namespace Go.Proofs.Ytpkcdabbijaklaa.Am
open Go
section
variable {P : Program} {N n0 : Nat} {ops : Array Oper} {o : Oper} {rest : List Oper} {fr : Frm} {H B : Mem} {K : Frm → Mem → Prop} {Q : Exit → Frm → Mem → Prop} {J : Mem → Prop} {T : Bool} {cs : List Nat} {α : Type} {u v z : Option α} {b : Bool}
theorem aT {c : Operand} {x y : Code} (h : (if b = true then u else v) = z) (hc : aev fr c = .sc (.bool b)) (h1 : b = true → u = z → aw P N n0 x fr H Q) (h2 : b = false → v = z → aw P N n0 y fr H Q) : aw P N n0 (.cond c x y) fr H Q :=
 aw_test hc (fun e => h1 e (ite_t e h)) (fun e => h2 e (ite_f e h))
theorem oT (h : (if b = true then u else v) = z) (hg : agd ops fr o = some true) (ho : OpS P o fr H (Det (.sc (.bool b)) H)) (h1 : b = true → u = z → OpsS P ops rest (fr.put o.dst (.sc (.bool true))) H K)
  (h2 : b = false → v = z → OpsS P ops rest (fr.put o.dst (.sc (.bool false))) H K) : OpsS P ops (o :: rest) fr H K := OpsS_test hg ho (fun e => h1 e (ite_t e h)) (fun e => h2 e (ite_f e h))
theorem dT0 (h : (if b = true then u else v) = z) (hg : agd ops fr o = some true) (ho : ∀ H0 : Mem, OpS P o fr H0 (Det (.sc (.bool b)) H0)) (h1 : b = true → u = z → DRun P J T ops cs rest (fr.put o.dst (.sc (.bool true))) B H K)
  (h2 : b = false → v = z → DRun P J T ops cs rest (fr.put o.dst (.sc (.bool false))) B H K) : DRun P J T ops (0 :: cs) (o :: rest) fr B H K := DRun_test0 hg ho (fun e => h1 e (ite_t e h)) (fun e => h2 e (ite_f e h))
theorem bs {β : Type} {o : Option α} {f : α → Option β} {b : β} (h : o.bind f = some b) : ∃ a, o = some a ∧ f a = some b := bind_some h
theorem sr {id : Nat} {l : List Oper} {y : Code} (hlt : dstsLt l N = true) (h : OpsS P l.toArray l fr H fun fr H => thenQ (fun fr H => aw P N n0 y fr H Q) Q .normal fr H) : aw P N n0 (.seq (.region id l.toArray false) y) fr H Q := aw_seq (aw_region hlt h)
theorem nt (h : K fr H) : OpsS P ops [] fr H fun fr H => thenQ K Q .normal fr H := h
end
theorem flr {N n0 : Nat} {fr : Frm} {H : Mem} {l : List (Nat × AV)} (h : (l.map fun p => fr p.1) = l.map (·.2)) : Reb N n0 fr (Frm.of l) H H := Reb.fl (by
 induction l with
 | nil => trivial
 | cons p r ih =>
  simp only [List.map_cons, List.cons.injEq] at h
  exact ⟨by rw [h.1]; exact .refl _, ih h.2⟩)
end Go.Proofs.Ytpkcdabbijaklaa.Am
namespace Go.Proofs.Ytpkcdabbijaklaa.Am
open Go
set_option linter.unusedVariables false
theorem wpAny_sim2 {P : Program} {Q : Exit → Act → World → Prop} {l l' : List Oper} (hlen : l'.length = l.length) (σ τ : Nat → Nat) (h1σ : ∀ i, τ (σ i) = i) (h2σ : ∀ i, σ (τ i) = i) (C : Array Bool → Prop) (hC : ∀ (x : Array Bool) i, C x → C (x.setIfInBounds i true))
  (hop : ∀ (i : Nat) o, l[i]? = some o → ∃ o', l'[σ i]? = some o' ∧ o'.dst = o.dst ∧ o'.op = o.op ∧ o'.type = o.type ∧ o'.pos = o.pos ∧ ∀ tm, Region.wanted o' (yielded l'.toArray tm) = Region.wanted o (yielded l.toArray tm))
  (hrd : ∀ x x' : Array Bool, C x → (∀ i, x'.getD i false = x.getD (τ i) false) → x.size = l.length → x'.size = l.length → ∀ i, i ∈ Region.ready .any l.toArray x ↔ σ i ∈ Region.ready .any l'.toArray x') :
  ∀ (fuel : Nat) (x x' : Array Bool) (a : Act) (w : World), C x → (∀ i, x'.getD i false = x.getD (τ i) false) → x.size = l.length → x'.size = l.length → wpAny P .any l'.toArray Q fuel x' a w → wpAny P .any l.toArray Q fuel x a w := by
 have hnil : ∀ x x' : Array Bool, C x → (∀ i, x'.getD i false = x.getD (τ i) false) → x.size = l.length → x'.size = l.length → (Region.ready .any l.toArray x = [] ↔ Region.ready .any l'.toArray x' = []) := fun x x' h1 h2 h3 h4 => by
  constructor
  ·intro h
   apply List.eq_nil_iff_forall_not_mem.2
   intro j hj
   have := (hrd x x' h1 h2 h3 h4 (τ j)).2 (by rw [h2σ]; exact hj)
   rw [h] at this; cases this
  ·intro h
   apply List.eq_nil_iff_forall_not_mem.2
   intro j hj
   have := (hrd x x' h1 h2 h3 h4 j).1 hj
   rw [h] at this; cases this
 intro fuel
 induction fuel with
 | zero =>
  intro x x' a w h1 h2 h3 h4 h
  exact ⟨(hnil x x' h1 h2 h3 h4).2 h.1, h.2⟩
 | succ fuel ih =>
  intro x x' a w h1 h2 h3 h4 h
  refine ⟨fun hr => h.1 ((hnil x x' h1 h2 h3 h4).1 hr), fun i hi => ?_⟩
  have hi' := (hrd x x' h1 h2 h3 h4 i).1 hi
  have hw := h.2 _ hi'
  obtain ⟨hf, o, ho, _⟩ := mem_ready.1 hi
  have ho : l[i]? = some o := by simpa using ho
  obtain ⟨o', g1, g2, g3, g4, g5, g6⟩ := hop i o ho
  have hil : i < l.length := (List.getElem?_eq_some_iff.1 ho).1
  have hil' : σ i < l.length := by rw [← hlen]; exact (List.getElem?_eq_some_iff.1 g1).1
  refine wpOp_sim ho g1 g2 g3 g4 g5 (g6 _) (fun a w => ?_) hw
  refine ih _ _ a w (hC _ _ h1) (fun j => ?_) (by simpa using h3) (by simpa using h4)
  by_cases e : j = σ i
  ·subst e
   rw [h1σ]
   have q1 : σ i < x'.size := by omega
   have q2 : i < x.size := by omega
   simp [q1, q2]
  ·rw [getD_set_ne false (Ne.symm e), getD_set_ne false (fun e2 => e (by rw [e2, h2σ])), h2]
def reO (σ ex : List Nat) (o : Oper) : Oper := ⟨o.dst, o.op, o.type, o.pos, (o.after.toList.map (fun e => (⟨σ.getD e.on e.on, e.ground⟩ : Edge)) ++ ex.map fun k => (⟨k, .data⟩ : Edge)).toArray, o.guard.map fun x => (σ.getD x.1 x.1, x.2)⟩
def mkV (l : List Oper) (o0 : Oper) (σ : List Nat) (tx : List (Nat × List Nat)) : List Oper := tx.map fun t => reO σ t.2 (l.getD t.1 o0)
def okV (n : Nat) (σ : List Nat) (tx : List (Nat × List Nat)) (C : List Nat) : Bool :=
 decide (σ.length = n) && (decide (tx.length = n) && ((List.range n).all (fun i => decide (σ.getD i i < n) && decide ((tx.getD (σ.getD i i) (0, [])).1 = i)) && ((List.range n).all (fun k => decide ((tx.getD k (0, [])).1 < n) && decide (σ.getD (tx.getD k (0, [])).1 0 = k)) && tx.all fun t => t.2.all fun k => C.contains k)))
section
variable {n : Nat} {σ : List Nat} {tx : List (Nat × List Nat)} {C : List Nat}
def sg (σ : List Nat) (i : Nat) : Nat := σ.getD i i
def tu (tx : List (Nat × List Nat)) (k : Nat) : Nat := (tx.getD k (k, [])).1
theorem okV_spec (h : okV n σ tx C = true) : σ.length = n ∧ tx.length = n ∧ (∀ i, tu tx (sg σ i) = i) ∧ (∀ i, sg σ (tu tx i) = i) ∧ (∀ i, i < n → sg σ i < n) ∧ ∀ t ∈ tx, ∀ k ∈ t.2, k ∈ C := by
 unfold okV at h
 simp only [Bool.and_eq_true, decide_eq_true_eq, List.all_eq_true, List.mem_range, List.contains_eq_mem] at h
 obtain ⟨h1, h2, h3, h4, h5⟩ := h
 have e1 : ∀ k, k < n → tu tx k = (tx.getD k (0, [])).1 := fun k hk => by
  unfold tu
  rw [List.getD_eq_getElem?_getD, List.getD_eq_getElem?_getD, List.getElem?_eq_getElem (by omega)]
  rfl
 have e2 : ∀ k, ¬ k < n → tu tx k = k := fun k hk => by
  unfold tu
  rw [List.getD_eq_getElem?_getD, List.getElem?_eq_none (by omega)]
  rfl
 have e3 : ∀ k, ¬ k < n → sg σ k = k := fun k hk => by
  unfold sg
  rw [List.getD_eq_getElem?_getD, List.getElem?_eq_none (by omega)]
  rfl
 refine ⟨h1, h2, fun i => ?_, fun i => ?_, fun i hi => (h3 i hi).1, fun t ht k hk => h5 t ht k hk⟩
 ·by_cases hi : i < n
  ·rw [e1 (sg σ i) (h3 i hi).1]; exact (h3 i hi).2
  ·rw [e3 i hi, e2 i hi]
 ·by_cases hi : i < n
  ·have := h4 i hi
   rw [e1 i hi]
   unfold sg
   have q := this.2
   rw [List.getD_eq_getElem?_getD, List.getElem?_eq_getElem (by omega)] at q ⊢
   exact q
  ·rw [e2 i hi, e3 i hi]
theorem mkV_at {l : List Oper} {o0 : Oper} (h : okV l.length σ tx C = true) {i : Nat} {o : Oper} (ho : l[i]? = some o) : ∃ ex, (∀ k ∈ ex, k ∈ C) ∧ tx[sg σ i]? = some (i, ex) ∧ (mkV l o0 σ tx)[sg σ i]? = some (reO σ ex o) := by
 obtain ⟨q1, q2, q3, q4, q5, q6⟩ := okV_spec h
 have hi := (List.getElem?_eq_some_iff.1 ho).1
 have hs := q5 i hi
 have hg : tx[sg σ i]? = some tx[sg σ i] := List.getElem?_eq_getElem (by omega)
 have h1 : (tx[sg σ i]).1 = i := by
  have := q3 i
  unfold tu at this
  rwa [List.getD_eq_getElem?_getD, hg] at this
 refine ⟨(tx[sg σ i]).2, q6 _ (List.getElem_mem _), ?_, ?_⟩
 ·rw [hg]; congr 1; exact Prod.ext h1 rfl
 ·rw [mkV, List.getElem?_map, hg, Option.map_some, h1, List.getD_eq_getElem?_getD, ho]
  rfl
theorem mkV_len {l : List Oper} {o0 : Oper} (h : okV l.length σ tx C = true) : (mkV l o0 σ tx).length = l.length := by
 rw [mkV, List.length_map]; exact (okV_spec h).2.1
theorem mkV_hop {l : List Oper} {o0 : Oper} (h : okV l.length σ tx C = true) {i : Nat} {o : Oper} (ho : l[i]? = some o) : ∃ o', (mkV l o0 σ tx)[sg σ i]? = some o' ∧ o'.dst = o.dst ∧ o'.op = o.op ∧ o'.type = o.type ∧ o'.pos = o.pos ∧ ∀ tm, Region.wanted o' (yielded (mkV l o0 σ tx).toArray tm) = Region.wanted o (yielded l.toArray tm) := by
 obtain ⟨ex, _, _, h2⟩ := mkV_at (o0 := o0) h ho
 refine ⟨_, h2, rfl, rfl, rfl, rfl, fun tm => wanted_same (σ := sg σ) (fun j => ?_) rfl tm⟩
 rcases Nat.lt_or_ge j l.length with hj | hj
 ·obtain ⟨ex2, _, _, h3⟩ := mkV_at (o0 := o0) h (List.getElem?_eq_getElem hj)
  rw [h3, List.getElem?_eq_getElem hj]; rfl
 ·rw [List.getElem?_eq_none hj, List.getElem?_eq_none]
  rw [mkV_len h]
  have q := okV_spec h
  have : sg σ j = j := by unfold sg; rw [List.getD_eq_getElem?_getD, List.getElem?_eq_none (by omega)]; rfl
  omega
theorem mkV_rdy {l : List Oper} {o0 : Oper} (h : okV l.length σ tx C = true) {x x' : Array Bool} (hx : ∀ i, x'.getD i false = x.getD (tu tx i) false) (h1 : x.size = l.length) (h2 : x'.size = l.length) {i : Nat} (hC : ∀ ex, tx[sg σ i]? = some (i, ex) → ∀ k ∈ ex, x'.getD k false = true) :
  i ∈ Region.ready .any l.toArray x ↔ sg σ i ∈ Region.ready .any (mkV l o0 σ tx).toArray x' := by
 obtain ⟨q1, q2, q3, q4, q5, q6⟩ := okV_spec h
 rw [rdy, rdy, hx (sg σ i), q3]
 constructor
 ·rintro ⟨a1, a2, o, ho, he⟩
  obtain ⟨ex, b1, b2, b3⟩ := mkV_at (o0 := o0) h ho
  refine ⟨by have := q5 i (by omega); omega, a2, _, b3, fun e he2 hb => ?_⟩
  simp only [reO, List.mem_toArray, List.mem_append, List.mem_map] at he2
  rcases he2 with ⟨e0, h0, rfl⟩ | ⟨k, hk, rfl⟩
  ·simp only
   rw [hx, show σ.getD e0.on e0.on = sg σ e0.on from rfl, q3]
   exact he e0 (Array.mem_toList_iff.1 h0) hb
  ·exact hC ex b2 k hk
 ·rintro ⟨a1, a2, o', ho', he⟩
  have hi : i < l.length := by
   rcases Nat.lt_or_ge i l.length with q | q
   ·exact q
   ·have : sg σ i = i := by unfold sg; rw [List.getD_eq_getElem?_getD, List.getElem?_eq_none (by omega)]; rfl
    omega
  obtain ⟨ex, b1, b2, b3⟩ := mkV_at (o0 := o0) h (List.getElem?_eq_getElem hi)
  rw [b3] at ho'; cases ho'
  refine ⟨by omega, a2, _, List.getElem?_eq_getElem hi, fun e he2 hb => ?_⟩
  have := he ⟨σ.getD e.on e.on, e.ground⟩ (by
   simp only [reO, List.mem_toArray, List.mem_append, List.mem_map]
   exact .inl ⟨e, Array.mem_toList_iff.2 he2, rfl⟩) hb
  simp only at this
  rwa [hx, show σ.getD e.on e.on = sg σ e.on from rfl, q3] at this
theorem sim_V {P : Program} {Q : Exit → Act → World → Prop} {l : List Oper} {o0 : Oper} (h : okV l.length σ tx C = true) : ∀ (fuel : Nat) (x x' : Array Bool) (a : Act) (w : World), (∀ k ∈ C, x.getD (tu tx k) false = true) → (∀ i, x'.getD i false = x.getD (tu tx i) false) → x.size = l.length → x'.size = l.length →
  wpAny P .any (mkV l o0 σ tx).toArray Q fuel x' a w → wpAny P .any l.toArray Q fuel x a w :=
 wpAny_sim2 (mkV_len h) (sg σ) (tu tx) (okV_spec h).2.2.1 (okV_spec h).2.2.2.1 (fun x => ∀ k ∈ C, x.getD (tu tx k) false = true)
  (fun x i hx k hk => by
   by_cases e : i = tu tx k
   ·subst e; exact getD_set_true (hx k hk)
   ·rw [getD_set_ne false e]; exact hx k hk)
  (fun i o ho => mkV_hop h ho)
  (fun x x' hc hx h1 h2 i => mkV_rdy h hx h1 h2 fun ex he k hk => by
   rw [hx]
   exact hc k ((okV_spec h).2.2.2.2.2 _ (List.mem_of_getElem? he) k hk))
end
theorem Trace.pre {P : Program} {J : Mem → Prop} {ops : Array Oper} {K : Frm → Mem → Prop} : ∀ {pre : List Oper} {c : List Nat} {fr : Frm} {B H : Mem}, c.length = pre.length → (∀ i, i < pre.length → c.getD i 0 ≠ 2) →
  DRun P J false ops c pre fr B H K → ∃ (fr' : Frm) (H' : Mem) (R0 : Nat → AV) (M0 : Nat → Mem), K fr' H' ∧ ∀ (opsA : Array Oper) (suf : List Oper) (cA : List Nat) (FA : Nat → Frm) (RA : Nat → AV) (MA BA : Nat → Mem), (∀ o ∈ pre, ∀ fr, agd opsA fr o = agd ops fr o) →
   Trace P J false opsA suf cA FA RA MA BA → FA 0 = fr' → MA 0 = H' → BA 0 = B → ∃ F R M Bs, Trace P J false opsA (pre ++ suf) (c ++ cA) F R M Bs ∧ F 0 = fr ∧ M 0 = H ∧ Bs 0 = B ∧ (∀ i, i < pre.length → R i = R0 i) ∧ (∀ i, i ≤ pre.length → M i = M0 i) ∧
    (∀ j, F (pre.length + j) = FA j) ∧ (∀ j, R (pre.length + j) = RA j) ∧ ∀ j, M (pre.length + j) = MA j
 | [], [], fr, B, H, _, _, h => ⟨fr, H, fun _ => .any, fun _ => H, h, fun opsA suf cA FA RA MA BA _ ht h1 h2 h3 => ⟨FA, RA, MA, BA, ht, h1, h2, h3, fun i hi => absurd hi (Nat.not_lt_zero _), fun i hi => by
   have : i = 0 := Nat.le_zero.1 hi
   subst this; exact h2, fun j => by simp, fun j => by simp, fun j => by simp⟩⟩
 | [], _ :: _, _, _, _, hc, _, _ => by cases hc
 | _ :: _, [], _, _, _, hc, _, _ => by cases hc
 | o :: pre, c0 :: c, fr, B, H, hc, h2, h => by
  obtain ⟨r, H', hs, hr⟩ := h
  have hc0 : c0 ≠ 2 := h2 0 (by simp)
  rw [show (if (c0 :: c).headD 0 = 2 then H' else B) = B from if_neg hc0] at hr
  simp only [List.headD_cons, List.tail_cons] at hs hr
  obtain ⟨fr', H2, R0, M0, hK, hT⟩ := Trace.pre (by simpa using hc) (fun i hi => by simpa using h2 (i + 1) (by simp; omega)) hr
  refine ⟨fr', H2, fun i => if i = 0 then r else R0 (i - 1), fun i => if i = 0 then H else M0 (i - 1), hK, fun opsA suf cA FA RA MA BA hg ht q1 q2 q3 => ?_⟩
  obtain ⟨F, R, M, Bs, t, a1, a2, a3, a4, a5, a6, a7, a8⟩ := hT opsA suf cA FA RA MA BA (fun o ho => hg o (List.mem_cons_of_mem _ ho)) ht q1 q2 q3
  have sA := (hs.ops (hg o (List.mem_cons_self ..) fr)).to (z' := false = true ∧ pre ++ suf = []) fun q => by cases q.1
  refine ⟨_, _, _, _, Trace.cons sA t a1 a2 (by rw [if_neg hc0]; exact a3), rfl, rfl, rfl, fun i hi => ?_, fun i hi => ?_, fun j => ?_, fun j => ?_, fun j => ?_⟩
  ·cases i with
   | zero => rfl
   | succ i => simpa using a4 i (by simpa using hi)
  ·cases i with
   | zero => rfl
   | succ i => simpa using a5 i (by simpa using hi)
  ·have := a6 j
   rw [show (o :: pre).length + j = pre.length + j + 1 by simp; omega]
   simpa using this
  ·have := a7 j
   rw [show (o :: pre).length + j = pre.length + j + 1 by simp; omega]
   simpa using this
  ·have := a8 j
   rw [show (o :: pre).length + j = pre.length + j + 1 by simp; omega]
   simpa using this
theorem main3 {P : Program} {J : Mem → Prop} {N : Nat} {l lA : List Oper} {cA : List Nat} {F : Nat → Frm} {R : Nat → AV} {M Bs : Nat → Mem} {B : Nat → Nat → Prop} {QQ : Exit → Act → World → Prop} {n0 : Nat} {g0 : Gh} {w0 : World} (q : Nat)
  (ht : Trace P J false lA.toArray lA cA F R M Bs) (hB0 : Bs 0 = M 0) (hJ : J (M 0)) (hok : OkD lA cA B) (hlt : dstsLt lA N = true)
  (hlen : lA.length = l.length) (hsame : ∀ i, i < q → lA[i]? = l[i]?) (hgu : ∀ i o, i < q → l[i]? = some o → ∀ fr, agd l.toArray fr o = agd lA.toArray fr o)
  (oq : Oper) (hoq : l[q]? = some oq) (hoe : ∀ e ∈ oq.after, Region.binds .any e = true → e.on < q)
  (hrev : ∀ (fuel : Nat) (x : Array Bool) (fr : Frm) (H : Mem) (g : Gh) (w : World) (a : Act), x.size = lA.length → x.count false ≤ fuel + 1 → (∀ i, x.getD i false = true → i < q) → Done lA cA F R M (fun i => x.getD i false = true) fr H →
   a.defers = [] → FR g H.length N fr a.tmps → MR g H w → Ev n0 g0 w0 g w → n0 ≤ H.length → ∀ i, q ≤ i → i ∈ Region.ready .any l.toArray x → wpOp P l.toArray QQ i (wpAny P .any l.toArray QQ fuel (x.setIfInBounds i true)) a w) :
  ∀ (fuel : Nat) (x : Array Bool) (fr : Frm) (H : Mem) (g : Gh) (w : World) (a : Act), x.size = lA.length → x.count false ≤ fuel → (∀ i, x.getD i false = true → i < q) → Done lA cA F R M (fun i => x.getD i false = true) fr H →
   a.defers = [] → FR g H.length N fr a.tmps → MR g H w → Ev n0 g0 w0 g w → n0 ≤ H.length → wpAny P .any l.toArray QQ fuel x a w := by
 have hql : q < l.length := (List.getElem?_eq_some_iff.1 hoq).1
 intro fuel
 induction fuel with
 | zero =>
  intro x fr1 H g1 w1 a1 hsz hc hx hD hd hf hm he hn
  exfalso
  have hp : q < x.size := by omega
  have : false ∈ x := by
   rw [Array.mem_iff_getElem]
   refine ⟨q, hp, ?_⟩
   cases hq : x[q] with
   | false => rfl
   | true => have := hx q (by simp [hp, hq]); omega
  have := Array.count_pos_iff.2 this
  omega
 | succ fuel ih =>
  intro x fr1 H g1 w1 a1 hsz hc hx hD hd hf hm he hn
  refine ⟨fun hr => ?_, fun i hi => ?_⟩
  ·exfalso
   have hall : ∀ (n i : Nat), i < n → i ≤ q → x.getD i false = true := by
    intro n
    induction n with
    | zero => intro i h; exact absurd h (Nat.not_lt_zero _)
    | succ n ihn =>
     intro i h hiq
     apply Classical.byContradiction
     intro hcn
     have hcf : x.getD i false = false := by simpa using hcn
     have hin : ∃ o, l[i]? = some o ∧ ∀ e ∈ o.after, Region.binds .any e = true → x.getD e.on false = true := by
      by_cases e : i = q
      ·subst e
       exact ⟨oq, hoq, fun e he hb => by have := hoe e he hb; exact ihn _ (by omega) (by omega)⟩
      ·have hiq2 : i < q := by omega
       have ho : l[i]? = some l[i] := List.getElem?_eq_getElem (by omega)
       refine ⟨_, ho, fun e he hb => ?_⟩
       have := hok.low i _ (by rw [hsame i hiq2]; exact ho) e he hb
       exact ihn _ (by omega) (by omega)
     have : i ∈ Region.ready .any l.toArray x := rdy.2 ⟨by omega, hcf, hin⟩
     rw [hr] at this; cases this
   have := hx q (hall (q + 1) q (by omega) (Nat.le_refl _))
   omega
  by_cases hiq2 : q ≤ i
  ·exact hrev fuel x fr1 H g1 w1 a1 hsz hc hx hD hd hf hm he hn i hiq2 hi
  have hiq : i < q := by omega
  obtain ⟨his, hin, o, ho, hpe⟩ := rdy.1 hi
  have hiA : lA[i]? = some o := by rw [hsame i hiq]; exact ho
  have hn0 : ¬ x.getD i false = true := by rw [hin]; simp
  have hnext := hD.next ht hok hiA hn0 hpe
  have hDeq : (fun j => j = i ∨ x.getD j false = true) = fun j => (x.setIfInBounds i true).getD j false = true := by
   funext j
   by_cases e : j = i
   ·subst e; simp [his]
   ·rw [getD_set_ne false (Ne.symm e)]; simp [e]
  rw [hDeq] at hnext
  have hcnt : (x.setIfInBounds i true).count false ≤ fuel := by
   have h1 : x[i] = false := by simpa [his] using hin
   have h2 : 0 < x.count false := Array.count_pos_iff.2 (Array.mem_iff_getElem.2 ⟨i, his, h1⟩)
   rw [Array.setIfInBounds, dif_pos his, Array.count_set]
   simp [h1]
   omega
  have hx2 : ∀ j, (x.setIfInBounds i true).getD j false = true → j < q := fun j hj => by
   by_cases e : j = i
   ·omega
   ·rw [getD_set_ne false (Ne.symm e)] at hj; exact hx j hj
  have hdst : ∀ y, o.dst = some y → y < N := fun y hy => by
   have := List.all_eq_true.1 hlt o (List.mem_of_getElem? hiA)
   rw [hy] at this; simpa using this
  obtain ⟨⟨hq, _, _, hs⟩, _⟩ := ht.step i o hiA
  have hag : ∀ t, t ∈ o.looksAt lA.toArray → fr1 t = F i t := fun t => hD.looks ht hok hiA hn0 hpe
  have hgd : agd lA.toArray fr1 o = agd lA.toArray (F i) o := by
   unfold agd
   cases hgd : o.guard with
   | none => rfl
   | some jw =>
    obtain ⟨j, want⟩ := jw
    simp only
    cases hdj : (lA.toArray[j]?).bind (·.dst) with
    | none => rfl
    | some d => simp only [hag d (by simp only [Oper.looksAt, hgd, List.mem_append]; right; rw [hdj]; simp)]
  have hgl : agd l.toArray fr1 o = agd lA.toArray (F i) o := (hgu i o hiq ho fr1).trans hgd
  unfold wpOp
  rw [show l.toArray[i]? = some o by simpa using ho]
  simp only
  rcases hs with ⟨hg, hs⟩ | ⟨hg, hr, hM⟩
  ·have hw := wanted_agd hf (hgl.trans hg)
   rw [if_pos hw]
   refine .inl (wp_of_Ls (K := SR H.length g1 w1 fun r1 H1 => r1 = R i ∧ H1 = if 2 ≤ cA.getD i 0 then M (i + 1) else H) ?_ ?_)
   ·have hop : ∀ t, Operand.tmp t ∈ o.op.operands → fr1 t = F i t := fun t hx => hag t (by
     simp only [Oper.looksAt, List.mem_append]; left
     exact List.mem_filterMap.2 ⟨.tmp t, Array.mem_toList_iff.2 hx, rfl⟩)
    have hO : OpS P o fr1 H fun r1 H1 => r1 = R i ∧ H1 = if 2 ≤ cA.getD i 0 then M (i + 1) else H := by
     rcases hs with ⟨hc0, hs⟩ | ⟨hc0, hs⟩ | ⟨hc0, hs⟩
     ·rw [if_neg (by omega)]
      exact (hs H (by
       obtain ⟨m, hm, hmem, e⟩ := hD.mem
       rw [e]
       exact ht.inv hJ hm fun q => by cases q)).congr hop
     ·rw [if_neg (by omega)]
      exact (hs H (hD.look ht hB0 hok hiA hn0 hpe hc0)).congr hop
     ·have hH := hD.here ht hok hiA hn0 hpe hc0
      rw [if_pos hc0, hH]
      exact hs.congr hop
    exact hO g1 w1 a1.eval (fun x _ => VR_aev hf x) hm
   ·rintro v w' ⟨r, H', g', ⟨rfl, hH'⟩, hv, hm', he', hn'⟩
    refine ih _ _ _ g' w' _ (by simpa using hsz) hcnt hx2 hnext ?_ ?_ (hH' ▸ hm') (he.trans he' hn) (hH' ▸ Nat.le_trans hn hn')
    ·cases o.dst <;> exact hd
    ·exact hH' ▸ FR.put (FR.mono he'.gle hn' hf) hdst hv
  ·have hw := wanted_agd hf (hgl.trans hg)
   rw [if_neg (by rw [hw]; simp)]
   have hH' : (if 2 ≤ cA.getD i 0 then M (i + 1) else H) = H := by
    split
    ·rename_i h2; rw [hM, hD.here ht hok hiA hn0 hpe h2]
    ·rfl
   rw [hH', hr] at hnext
   refine ih _ _ _ g1 w1 _ (by simpa using hsz) hcnt hx2 hnext ?_ ?_ hm he hn
   ·cases o.dst <;> exact hd
   ·exact FR.put hf hdst (.sc undef)
theorem reveal {P : Program} {J : Mem → Prop} {N : Nat} {l lA lV : List Oper} {σ : List Nat} {tx : List (Nat × List Nat)} {C : List Nat} {o0 : Oper} {cA cV : List Nat} {F FV : Nat → Frm} {R RV : Nat → AV} {M MV BV : Nat → Mem} {BB : Nat → Nat → Prop} {QQ : Exit → Act → World → Prop} {n0 : Nat} {g0 : Gh} {w0 : World} (q i : Nat)
  (hV : okV l.length σ tx C = true) (hl : lV = mkV l o0 σ tx) (hid : ∀ k, k < q → tu tx k = k) (hge : ∀ k, q ≤ k → q ≤ tu tx k)
  (hlen : lA.length = l.length) (hql : q ≤ l.length) (hsame : ∀ k, k < q → lV[k]? = lA[k]?)
  (hF : FV 0 = F 0) (hR : ∀ k, k < q → RV k = R k) (hM : ∀ k, k ≤ q → MV k = M k) (hcl : ∀ k, k < q → cV.getD k 0 = cA.getD k 0)
  (ht : Trace P J false lV.toArray lV cV FV RV MV BV) (hB0 : BV 0 = MV 0) (hJ : J (MV 0)) (hok : OkD lV cV BB) (hlt : dstsLt lV N = true)
  (hQ : ∀ (g : Gh) (w : World) (a : Act), a.defers = [] → FR g (MV lV.length).length N (FV lV.length) a.tmps → MR g (MV lV.length) w → Ev n0 g0 w0 g w → n0 ≤ (MV lV.length).length → QQ .normal a w)
  {fuel : Nat} {x : Array Bool} {fr : Frm} {H : Mem} {g : Gh} {w : World} {a : Act} (hsz : x.size = lA.length) (hc : x.count false ≤ fuel + 1) (hx : ∀ k, x.getD k false = true → k < q) (hm2 : ∃ m, m ≤ q ∧ (∀ j, j < lA.length → 2 ≤ cA.getD j 0 → (x.getD j false = true ↔ j < m)) ∧ H = M m) (hD : Done lA cA F R M (fun i => x.getD i false = true) fr H)
  (hcq : ∀ m, m ≤ q → (∀ j, j < lA.length → 2 ≤ cA.getD j 0 → (x.getD j false = true ↔ j < m)) → ∀ j, j < lV.length → 2 ≤ cV.getD j 0 → (x.getD j false = true ↔ j < m))
  (hd : a.defers = []) (hf : FR g H.length N fr a.tmps) (hm : MR g H w) (he : Ev n0 g0 w0 g w) (hn : n0 ≤ H.length)
  (hi : i ∈ Region.ready .any l.toArray x) (hex : ∀ ex, tx[sg σ i]? = some (i, ex) → ∀ k ∈ ex, x.getD k false = true) (hC : ∀ k ∈ C, k = sg σ i ∨ k < q ∧ x.getD k false = true) :
  wpOp P l.toArray QQ i (wpAny P .any l.toArray QQ fuel (x.setIfInBounds i true)) a w := by
 obtain ⟨q1, q2, q3, q4, q5, q6⟩ := okV_spec hV
 have hlV : lV.length = l.length := by rw [hl]; exact mkV_len hV
 have hxx : ∀ k, x.getD k false = x.getD (tu tx k) false := fun k => by
  rcases Nat.lt_or_ge k q with h | h
  ·rw [hid k h]
  ·have e1 : x.getD k false = false := by
    cases e : x.getD k false with
    | false => rfl
    | true => have := hx k e; omega
   have e2 : x.getD (tu tx k) false = false := by
    cases e : x.getD (tu tx k) false with
    | false => rfl
    | true => have := hx _ e; have := hge k h; omega
   rw [e1, e2]
 have hDV : Done lV cV FV RV MV (fun i => x.getD i false = true) fr H := by
  obtain ⟨m, hm1, hm3, hm4⟩ := hm2
  refine ⟨fun i o hi hDi => ?_, fun i o t hi hDi hdi => ?_, fun t h => ?_, m, ?_, hcq m hm1 hm3, by rw [hm4, hM m hm1]⟩
  ·exact hD.down i o (by rw [← hsame i (hx i hDi)]; exact hi) hDi
  ·rw [hR i (hx i hDi)]
   exact hD.put i o t (by rw [← hsame i (hx i hDi)]; exact hi) hDi hdi
  ·rw [hF]
   exact hD.keep t fun i o hi hDi => h i o (by rw [hsame i (hx i hDi)]; exact hi) hDi
  ·omega
 have wV := draw_sound (QQ := QQ) ht hB0 hJ hok (fun q => by cases q) hlt hQ (fuel + 1) x fr H g w a (by omega) hc hDV hd hf hm he hn
 have hir : sg σ i ∈ Region.ready .any lV.toArray x := by
  rw [hl]; exact (mkV_rdy hV hxx (by omega) (by omega) hex).1 hi
 have h1 := wV.2 _ hir
 obtain ⟨his, hin, o, ho, hpe⟩ := rdy.1 hi
 obtain ⟨o', g1, g2, g3, g4, g5, g6⟩ := mkV_hop (o0 := o0) hV ho
 have hsi := q5 i (by omega)
 refine wpOp_sim ho (by rw [hl]; exact g1) g2 g3 g4 g5 (by rw [hl]; exact g6 _) (fun a w hw => ?_) h1
 refine sim_V (o0 := o0) hV fuel _ (x.setIfInBounds (sg σ i) true) a w (fun k hk => ?_) (fun k => ?_) (by simp only [Array.size_setIfInBounds]; omega) (by simp only [Array.size_setIfInBounds]; omega) (by rw [← hl]; exact hw)
 ·rcases hC k hk with rfl | ⟨hkq, hk2⟩
  ·rw [q3]; simp [his]
  ·rw [hid k hkq]; exact getD_set_true hk2
 ·by_cases e : k = sg σ i
  ·subst e
   have : sg σ i < x.size := by omega
   rw [q3]; simp [his, this]
  ·rw [getD_set_ne false (Ne.symm e), getD_set_ne false (fun e2 => e (by rw [e2, q4]))]
   exact hxx k
def sgA (n p : Nat) : List Nat := List.range n
def txA (n p : Nat) : List (Nat × List Nat) := (List.range n).map fun k => (k, if k = p + 2 then [p + 1] else [])
def sgM (n p : Nat) : List Nat := (List.range n).map (swI (p + 1))
def txM (n p : Nat) : List (Nat × List Nat) := (List.range n).map fun k => (swI (p + 1) k, if k = p + 1 then [p] else if k = p + 2 then [p + 1] else [])
def sgB (n p : Nat) : List Nat := (List.range n).map fun i => if i = p then p + 1 else if i = p + 1 then p + 2 else if i = p + 2 then p else i
def txB (n p : Nat) : List (Nat × List Nat) := (List.range n).map fun k => (if k = p then p + 2 else if k = p + 1 then p else if k = p + 2 then p + 1 else k, if k = p + 1 then [p] else [])
def vA (l : List Oper) (o0 : Oper) (p : Nat) : List Oper := mkV l o0 (sgA l.length p) (txA l.length p)
def vM (l : List Oper) (o0 : Oper) (p : Nat) : List Oper := mkV l o0 (sgM l.length p) (txM l.length p)
def vB (l : List Oper) (o0 : Oper) (p : Nat) : List Oper := mkV l o0 (sgB l.length p) (txB l.length p)
def ok3 (l : List Oper) (o0 : Oper) (N p : Nat) (c : List Nat) (c1 : Nat) (cA cM cB : List Nat) : Bool :=
 okV l.length (sgA l.length p) (txA l.length p) [p + 1] && (okV l.length (sgM l.length p) (txM l.length p) [p, p + 1] && (okV l.length (sgB l.length p) (txB l.length p) [p] &&
 (okD (vA l o0 p) (c ++ c1 :: cA) && (okD (vM l o0 p) (c ++ c1 :: cM) && (okD (vB l o0 p) (c ++ cB) && (dstsLt (vA l o0 p) N && (dstsLt (vM l o0 p) N && (dstsLt (vB l o0 p) N &&
 (decide (c.length = p) && (c.all (fun x => x != 2) && (c1 != 2 && (decide (p + 2 < l.length) &&
 ((List.range l.length).all (fun k => match l[k]? with
  | none => false
  | some o => (decide (k < p + 3) || o.after.toList.any fun e => Region.binds .any e && decide (p + 1 ≤ e.on)) && ((decide (p + 1 < k) || o.after.toList.all fun e => !Region.binds .any e || decide (e.on < p + 1)) && (decide (p < k) || match o.guard with
   | none => true
   | some x => decide (x.1 < p)))))))))))))))))
theorem at_map {n p : Nat} {f : Nat → Nat × List Nat} {k : Nat} (h : k < n) : ((List.range n).map f)[k]? = some (f k) := by
 rw [List.getElem?_map, List.getElem?_range h]; rfl
theorem tu_map {n : Nat} {f : Nat → Nat × List Nat} {k : Nat} : tu ((List.range n).map f) k = if k < n then (f k).1 else k := by
 unfold tu
 rw [List.getD_eq_getElem?_getD]
 by_cases h : k < n
 ·rw [at_map (p := 0) h, if_pos h]; rfl
 ·rw [List.getElem?_eq_none (by simp; omega), if_neg h]; rfl
def dropE (k q : Nat) : List Oper → List Oper
 | [] => []
 | o :: l => match k with
  | 0 => ⟨o.dst, o.op, o.type, o.pos, (o.after.toList.filter fun e => e.on != q).toArray, o.guard⟩ :: l
  | k + 1 => o :: dropE k q l
def lowE (l : List Oper) : Bool := (List.range l.length).all fun i => match l[i]? with
 | none => true
 | some o => o.after.toList.all fun e => !Region.binds .any e || decide (e.on < i)
theorem dropE_at : ∀ {k q : Nat} {l : List Oper} {i : Nat} {o : Oper}, l[i]? = some o → ∃ o', (dropE k q l)[i]? = some o' ∧ o'.dst = o.dst ∧ o'.op = o.op ∧ o'.type = o.type ∧ o'.pos = o.pos ∧ o'.guard = o.guard ∧ ∀ e ∈ o'.after, e ∈ o.after
 | _, _, [], _, _, h => by simp at h
 | 0, q, o0 :: l, 0, o, h => by
  simp only [List.getElem?_cons_zero, Option.some.injEq] at h
  subst h
  refine ⟨_, rfl, rfl, rfl, rfl, rfl, rfl, fun e he => ?_⟩
  simp only [List.mem_toArray, List.mem_filter] at he
  exact Array.mem_toList_iff.1 he.1
 | 0, q, o0 :: l, i + 1, o, h => by
  simp only [List.getElem?_cons_succ] at h
  exact ⟨o, by simpa [dropE] using h, rfl, rfl, rfl, rfl, rfl, fun e he => he⟩
 | k + 1, q, o0 :: l, 0, o, h => by
  simp only [List.getElem?_cons_zero, Option.some.injEq] at h
  subst h
  exact ⟨_, rfl, rfl, rfl, rfl, rfl, rfl, fun e he => he⟩
 | k + 1, q, o0 :: l, i + 1, o, h => by
  simp only [List.getElem?_cons_succ] at h
  obtain ⟨o', h1, h2⟩ := dropE_at (k := k) (q := q) h
  exact ⟨o', by simpa [dropE] using h1, h2⟩
theorem dropE_len : ∀ {k q : Nat} {l : List Oper}, (dropE k q l).length = l.length
 | _, _, [] => by simp [dropE]
 | 0, _, _ :: _ => by simp [dropE]
 | k + 1, _, _ :: l => by simp [dropE, dropE_len (k := k) (l := l)]
def bindE (l : List Oper) : List Oper := l.map fun o => ⟨o.dst, o.op, o.type, o.pos, (o.after.toList.filter (Region.binds .any)).toArray, o.guard⟩
def dropB (k q : Nat) (l : List Oper) : List Oper := dropE k q (bindE l)
theorem dropB_at {k q : Nat} {l : List Oper} {i : Nat} {o : Oper} (h : l[i]? = some o) : ∃ o', (dropB k q l)[i]? = some o' ∧ o'.dst = o.dst ∧ o'.op = o.op ∧ o'.type = o.type ∧ o'.pos = o.pos ∧ o'.guard = o.guard ∧ ∀ e ∈ o'.after, e ∈ o.after := by
 have h1 : (bindE l)[i]? = some ⟨o.dst, o.op, o.type, o.pos, (o.after.toList.filter (Region.binds .any)).toArray, o.guard⟩ := by
  unfold bindE
  rw [List.getElem?_map, h]; rfl
 obtain ⟨o', g1, g2, g3, g4, g5, g6, g7⟩ := dropE_at (k := k) (q := q) h1
 refine ⟨o', g1, g2, g3, g4, g5, g6, fun e he => ?_⟩
 have := g7 e he
 simp only [List.mem_toArray, List.mem_filter] at this
 exact Array.mem_toList_iff.1 this.1
theorem dropB_len {k q : Nat} {l : List Oper} : (dropB k q l).length = l.length := by
 unfold dropB bindE
 rw [dropE_len, List.length_map]
theorem drop_any {P : Program} {Q : Exit → Act → World → Prop} {l : List Oper} {k q : Nat} (hl : lowE l = true) : ∀ (fuel : Nat) (x : Array Bool) (a : Act) (w : World), x.size = l.length →
  wpAny P .any (dropB k q l).toArray Q fuel x a w → wpAny P .any l.toArray Q fuel x a w := by
 have hup : ∀ (x : Array Bool) i, i ∈ Region.ready .any l.toArray x → i ∈ Region.ready .any (dropB k q l).toArray x := fun x i hi => by
  obtain ⟨h1, h2, o, ho, h3⟩ := rdy.1 hi
  obtain ⟨o', g1, _, _, _, _, _, g7⟩ := dropB_at (k := k) (q := q) ho
  exact rdy.2 ⟨h1, h2, o', g1, fun e he hb => h3 e (g7 e he) hb⟩
 have hnil : ∀ x : Array Bool, x.size = l.length → Region.ready .any l.toArray x = [] → Region.ready .any (dropB k q l).toArray x = [] := fun x hx h => by
  have hall : ∀ (n i : Nat), i < n → i < x.size → x.getD i false = true := by
   intro n
   induction n with
   | zero => intro i hi; exact absurd hi (Nat.not_lt_zero _)
   | succ n ih =>
    intro i hi hs
    apply Classical.byContradiction
    intro hc
    have hf : x.getD i false = false := by simpa using hc
    have ho : l[i]? = some l[i] := List.getElem?_eq_getElem (by omega)
    have : i ∈ Region.ready .any l.toArray x := rdy.2 ⟨hs, hf, _, ho, fun e he hb => by
     have q := hl
     unfold lowE at q
     simp only [List.all_eq_true, List.mem_range] at q
     have q := q i (by omega)
     rw [ho] at q
     simp only [List.all_eq_true, Bool.or_eq_true, Bool.not_eq_true', decide_eq_true_eq] at q
     have q := q e (Array.mem_toList_iff.2 he)
     rw [hb] at q
     have q : e.on < i := by simpa using q
     exact ih e.on (by omega) (by omega)⟩
    rw [h] at this; cases this
  apply List.eq_nil_iff_forall_not_mem.2
  intro j hj
  obtain ⟨h1, h2, _⟩ := rdy.1 hj
  rw [hall _ j (Nat.lt_succ_self _) h1] at h2; cases h2
 intro fuel
 induction fuel with
 | zero =>
  intro x a w _ h
  refine ⟨?_, h.2⟩
  apply List.eq_nil_iff_forall_not_mem.2
  intro j hj
  have := hup x j hj
  rw [h.1] at this
  exact absurd this (List.not_mem_nil)
 | succ fuel ih =>
  intro x a w hx h
  refine ⟨fun hr => h.1 (hnil x hx hr), fun i hi => ?_⟩
  have hw := h.2 i (hup x i hi)
  obtain ⟨_, _, o, ho, _⟩ := rdy.1 hi
  obtain ⟨o', g1, g2, g3, g4, g5, g6, _⟩ := dropB_at (k := k) (q := q) ho
  refine wpOp_sim ho g1 g2 g3 g4 g5 (wanted_same (σ := id) (fun j => ?_) ?_ _) (fun a w => ih _ a w (by simpa using hx)) hw
  ·show ((dropB k q l)[j]?).map Oper.dst = _
   rcases Nat.lt_or_ge j l.length with hj | hj
   ·obtain ⟨o2, r1, r2, _⟩ := dropB_at (k := k) (q := q) (List.getElem?_eq_getElem hj)
    rw [r1, List.getElem?_eq_getElem hj, Option.map_some, Option.map_some, r2]
   ·rw [List.getElem?_eq_none hj, List.getElem?_eq_none (by rw [dropB_len]; exact hj)]
  ·rw [g6]; cases o.guard <;> rfl
theorem aw_draw3 {P : Program} {N n0 : Nat} {fr : Frm} {H : Mem} {Q : Exit → Frm → Mem → Prop} {id : Nat} {l l1 : List Oper} (hm : P.follows .mixedOrders = true) (hdr : ∀ (QQ : Exit → Act → World → Prop) (a : Act) (w : World), wpAny P .any l.toArray QQ l.toArray.size (Array.replicate l.toArray.size false) a w → wpAny P .any l1.toArray QQ l1.toArray.size (Array.replicate l1.toArray.size false) a w) (o0 : Oper) (σ0 : List Nat) (tx0 : List (Nat × List Nat)) (p : Nat) (c : List Nat) (c1 : Nat) (cA cM cB : List Nat)
  {l0 pre sA sM sB s0 : List Oper} {o1 : Oper} (hv : okV l.length σ0 tx0 [] = true) (h0 : mkV l o0 σ0 tx0 = l0) (hok : ok3 l0 o0 N p c c1 cA cM cB = true)
  (hp : pre.length = p) (e0 : l0 = pre ++ o1 :: s0) (eA : vA l0 o0 p = pre ++ o1 :: sA) (eM : vM l0 o0 p = pre ++ o1 :: sM) (eB : vB l0 o0 p = pre ++ sB) (J : Mem → Prop) (hJ : J H)
  (h : DRun P J false l0.toArray c pre fr H H (fun fr' H' => DRun P J false (vB l0 o0 p).toArray cB sB fr' H H' (fun fr H => Q .normal fr H) ∧ DRun P J false l0.toArray [c1] [o1] fr' H H' (fun fr' H' =>
   DRun P J false (vA l0 o0 p).toArray cA sA fr' H H' (fun fr H => Q .normal fr H) ∧ DRun P J false (vM l0 o0 p).toArray cM sM fr' H H' (fun fr H => Q .normal fr H)))) :
  aw P N n0 (.region id l1.toArray true) fr H Q := fun g w a hl hd hf hmr => by
 have hlen0 : l0.length = l.length := by rw [← h0]; exact mkV_len hv
 unfold ok3 at hok
 simp only [Bool.and_eq_true, List.all_eq_true, decide_eq_true_eq, bne_iff_ne, List.mem_range] at hok
 obtain ⟨vokA, vokM, vokB, okA, okM, okB, ltA, ltM, ltB, hcl, hc2, hc1, hpl, hops⟩ := hok
 have lenA : (vA l0 o0 p).length = l0.length := mkV_len (l := l0) (o0 := o0) vokA
 have lenM : (vM l0 o0 p).length = l0.length := mkV_len (l := l0) (o0 := o0) vokM
 have lenB : (vB l0 o0 p).length = l0.length := mkV_len (l := l0) (o0 := o0) vokB
 have loP : ∀ {r : List Oper} {i : Nat}, i < p → (pre ++ r)[i]? = pre[i]? := fun h => List.getElem?_append_left (by omega)
 have atP : ∀ {r : List Oper}, (pre ++ o1 :: r)[p]? = some o1 := fun {r} => by rw [List.getElem?_append_right (by omega), hp]; simp
 have same : ∀ {r r' : List Oper} (i : Nat), i < p + 1 → (pre ++ o1 :: r)[i]? = (pre ++ o1 :: r')[i]? := fun {r r'} i hi => by
  rcases Nat.lt_or_ge i p with h | h
  ·rw [loP h, loP h]
  ·have : i = p := by omega
   subst this
   rw [atP, atP]
 have hgd : ∀ i, i < p + 1 → ∀ o, l0[i]? = some o → ∀ j b, o.guard = some (j, b) → j < p := fun i hi o ho j b hg => by
  have := hops i (by omega)
  rw [ho] at this
  simp only [hg, Bool.and_eq_true, Bool.or_eq_true, decide_eq_true_eq] at this
  rcases this.2.2 with h | h
  ·omega
  ·exact h
 have g0 : ∀ (r : List Oper), (∀ i, i < p → (r[i]?).map Oper.dst = (l0[i]?).map Oper.dst) → ∀ i, i < p + 1 → ∀ o, l0[i]? = some o → ∀ fr, agd r.toArray fr o = agd l0.toArray fr o := fun r hr i hi o ho => agd_same fun j b hg => by
  have q := hr j (hgd i hi o ho j b hg)
  simp only [List.getElem?_toArray]
  cases h1 : r[j]? with
  | none => cases h2 : l0[j]? with
   | none => rfl
   | some x => rw [h1, h2] at q; cases q
  | some y => cases h2 : l0[j]? with
   | none => rw [h1, h2] at q; cases q
   | some x => rw [h1, h2] at q; simpa using q
 have hmem : ∀ o ∈ pre, ∃ i, i < p ∧ l0[i]? = some o := fun o ho => by
  obtain ⟨i, hi, rfl⟩ := List.mem_iff_getElem.1 ho
  exact ⟨i, by omega, by rw [e0, loP (by omega)]; exact List.getElem?_eq_getElem hi⟩
 have gA : ∀ i, i < p + 1 → ∀ o, l0[i]? = some o → ∀ fr, agd (vA l0 o0 p).toArray fr o = agd l0.toArray fr o := g0 _ fun i hi => by rw [eA, e0, loP hi, loP hi]
 have gM : ∀ i, i < p + 1 → ∀ o, l0[i]? = some o → ∀ fr, agd (vM l0 o0 p).toArray fr o = agd l0.toArray fr o := g0 _ fun i hi => by rw [eM, e0, loP hi, loP hi]
 have gB : ∀ i, i < p + 1 → ∀ o, l0[i]? = some o → ∀ fr, agd (vB l0 o0 p).toArray fr o = agd l0.toArray fr o := g0 _ fun i hi => by rw [eB, e0, loP hi, loP hi]
 have at1 : l0[p]? = some o1 := by rw [e0, atP]
 obtain ⟨fr1, H1, R0, M0, ⟨hB, hmid⟩, T1⟩ := Trace.pre (by omega) (fun i hi => by
  rw [List.getD_eq_getElem?_getD, List.getElem?_eq_getElem (by omega)]
  exact hc2 _ (List.getElem_mem _)) h
 obtain ⟨FB', RB', MB', BB', tB', b1, b2, b3, kB'⟩ := Trace.of_run hB
 obtain ⟨FB, RB, MB, BB, tB, fB, mB, bB, rB0, mB0, FBj, RBj, MBj⟩ := T1 _ _ _ FB' RB' MB' BB' (fun o ho fr => by obtain ⟨i, hi, hio⟩ := hmem o ho; exact gB i (by omega) o hio fr) tB' b1 b2 b3
 obtain ⟨fr2, H2, R1, M1, ⟨hA, hM⟩, T2⟩ := Trace.pre (pre := [o1]) rfl (fun i hi => by
  have : i = 0 := by simpa using hi
  subst this; exact hc1) hmid
 obtain ⟨FA2, RA2, MA2, BA2, tA2, a1, a2, a3, kA2⟩ := Trace.of_run hA
 obtain ⟨FM2, RM2, MM2, BM2, tM2, d1, d2, d3, kM2⟩ := Trace.of_run hM
 obtain ⟨FA1, RA1, MA1, BA1, tA1, a4, a5, a6, a7, a8, FA1j, RA1j, MA1j⟩ := T2 _ _ _ FA2 RA2 MA2 BA2 (fun o ho fr => (List.mem_singleton.1 ho) ▸ gA p (by omega) o1 at1 fr) tA2 a1 a2 a3
 obtain ⟨FM1, RM1, MM1, BM1, tM1, d4, d5, d6, d7, d8, FM1j, RM1j, MM1j⟩ := T2 _ _ _ FM2 RM2 MM2 BM2 (fun o ho fr => (List.mem_singleton.1 ho) ▸ gM p (by omega) o1 at1 fr) tM2 d1 d2 d3
 obtain ⟨FA, RA, MA, BA, tA, fA, mA, bA, rA0, mA0, FAj, RAj, MAj⟩ := T1 _ _ _ FA1 RA1 MA1 BA1 (fun o ho fr => by obtain ⟨i, hi, hio⟩ := hmem o ho; exact gA i (by omega) o hio fr) tA1 a4 a5 a6
 obtain ⟨FM, RM, MM, BM, tM, fM, mM, bM, rM0, mM0, FMj, RMj, MMj⟩ := T1 _ _ _ FM1 RM1 MM1 BM1 (fun o ho fr => by obtain ⟨i, hi, hio⟩ := hmem o ho; exact gM i (by omega) o hio fr) tM1 d4 d5 d6
 have kA : Q .normal (FA (vA l0 o0 p).length) (MA (vA l0 o0 p).length) := by
  rw [eA, List.length_append, FAj, MAj, show (o1 :: sA).length = [o1].length + sA.length by simp; omega, FA1j, MA1j]; exact kA2
 have kM : Q .normal (FM (vM l0 o0 p).length) (MM (vM l0 o0 p).length) := by
  rw [eM, List.length_append, FMj, MMj, show (o1 :: sM).length = [o1].length + sM.length by simp; omega, FM1j, MM1j]; exact kM2
 have kB : Q .normal (FB (vB l0 o0 p).length) (MB (vB l0 o0 p).length) := by
  rw [eB, List.length_append, FBj, MBj]; exact kB'
 have tA : Trace P J false (vA l0 o0 p).toArray (vA l0 o0 p) (c ++ c1 :: cA) FA RA MA BA := by
  have q : vA l0 o0 p = pre ++ ([o1] ++ sA) := eA
  rw [← q] at tA; exact tA
 have tM : Trace P J false (vM l0 o0 p).toArray (vM l0 o0 p) (c ++ c1 :: cM) FM RM MM BM := by
  have q : vM l0 o0 p = pre ++ ([o1] ++ sM) := eM
  rw [← q] at tM; exact tM
 have tB : Trace P J false (vB l0 o0 p).toArray (vB l0 o0 p) (c ++ cB) FB RB MB BB := by
  rw [← eB] at tB; exact tB
 have rMA : ∀ k, k < p + 1 → RM k = RA k := fun k hk => by
  rcases Nat.lt_or_ge k p with h | h
  ·rw [rM0 k (by omega), rA0 k (by omega)]
  ·have : k = pre.length + 0 := by omega
   rw [this, RMj, RAj, d7 0 (by simp), a7 0 (by simp)]
 have mMA : ∀ k, k ≤ p + 1 → MM k = MA k := fun k hk => by
  rcases Nat.lt_or_ge k (p + 1) with h | h
  ·rw [mM0 k (by omega), mA0 k (by omega)]
  ·have : k = pre.length + 1 := by omega
   rw [this, MMj, MAj, d8 1 (by simp), a8 1 (by simp)]
 have rBA : ∀ k, k < p → RB k = RA k := fun k hk => by rw [rB0 k (by omega), rA0 k (by omega)]
 have mBA : ∀ k, k ≤ p → MB k = MA k := fun k hk => by rw [mB0 k (by omega), mA0 k (by omega)]
 have clo : ∀ (r r' : List Nat) k, k < p → (c ++ r).getD k 0 = (c ++ r').getD k 0 := fun r r' k hk => by
  rw [List.getD_eq_getElem?_getD, List.getD_eq_getElem?_getD, List.getElem?_append_left (by omega), List.getElem?_append_left (by omega)]
 have clo1 : ∀ (r r' : List Nat) k, k < p + 1 → (c ++ c1 :: r).getD k 0 = (c ++ c1 :: r').getD k 0 := fun r r' k hk => by
  rcases Nat.lt_or_ge k p with h | h
  ·exact clo _ _ k h
  ·have : k = p := by omega
   subst this
   rw [List.getD_eq_getElem?_getD, List.getD_eq_getElem?_getD, List.getElem?_append_right (by omega), List.getElem?_append_right (by omega), hcl]; simp
 have sA1 : ∀ i, i < p + 1 → (vA l0 o0 p)[i]? = l0[i]? := fun i hi => by rw [eA, e0]; exact same i hi
 have oq : ∃ o, l0[p + 1]? = some o := ⟨_, List.getElem?_eq_getElem (by omega)⟩
 obtain ⟨oq, hoq⟩ := oq
 have sAt : ∀ i, i < l0.length → sg (sgA l0.length p) i = i := fun i hi => by
  unfold sg sgA
  rw [List.getD_eq_getElem?_getD, List.getElem?_range hi]; rfl
 have sMt : ∀ i, i < l0.length → sg (sgM l0.length p) i = swI (p + 1) i := fun i hi => by
  unfold sg sgM
  rw [List.getD_eq_getElem?_getD, List.getElem?_map, List.getElem?_range hi]; rfl
 have sBt : ∀ i, i < l0.length → sg (sgB l0.length p) i = if i = p then p + 1 else if i = p + 1 then p + 2 else if i = p + 2 then p else i := fun i hi => by
  unfold sg sgB
  rw [List.getD_eq_getElem?_getD, List.getElem?_map, List.getElem?_range hi]; rfl
 have main := main3 (P := P) (l := l0) (QQ := CR N n0 g w Q) (n0 := n0) (g0 := g) (w0 := w) (p + 1) tA (bA.trans mA.symm) (by rw [mA]; exact hJ) (okD_spec okA) ltA lenA sA1 (fun i o hi ho fr => (gA i hi o ho fr).symm) oq hoq (fun e he hb => by
   have := hops (p + 1) (by omega)
   rw [hoq] at this
   simp only [Bool.and_eq_true, Bool.or_eq_true, decide_eq_true_eq, List.all_eq_true, Bool.not_eq_true'] at this
   rcases this.2.1 with h | h
   ·omega
   ·rcases h e (Array.mem_toList_iff.2 he) with h | h
    ·rw [hb] at h; cases h
    ·exact h) (fun fuel x fr1 H1 g1 w1 a1 hsz hc hx hD hd hf hm he hn i hi hir => by
  obtain ⟨his, hin, o, ho, hpe⟩ := rdy.1 hir
  have hm2 : ∀ q, q ≤ p + 1 → (∀ i, x.getD i false = true → i < q) → ∃ m, m ≤ q ∧ (∀ j, j < (vA l0 o0 p).length → 2 ≤ (c ++ c1 :: cA).getD j 0 → (x.getD j false = true ↔ j < m)) ∧ H1 = MA m := fun q hq hxq => by
   obtain ⟨m, q1, q2, q3⟩ := hD.mem
   have q4 : ∀ j, j < (vA l0 o0 p).length → 2 ≤ (c ++ c1 :: cA).getD j 0 → (x.getD j false = true ↔ j < min m q) := fun j hj hj2 =>
    ⟨fun h => by have := hxq j h; have := (q2 j hj hj2).1 h; omega, fun h => (q2 j hj hj2).2 (by omega)⟩
   exact ⟨min m q, by omega, q4, hD.mem' tA (min m q) (by omega) q4⟩
  have hcq : ∀ (cV : List Nat) (n q : Nat), q ≤ (vA l0 o0 p).length → (∀ i, x.getD i false = true → i < q) → (∀ k, k < q → cV.getD k 0 = (c ++ c1 :: cA).getD k 0) → ∀ m, m ≤ q → (∀ j, j < (vA l0 o0 p).length → 2 ≤ (c ++ c1 :: cA).getD j 0 → (x.getD j false = true ↔ j < m)) → ∀ j, j < n → 2 ≤ cV.getD j 0 → (x.getD j false = true ↔ j < m) := fun cV n q hql hxq hcc m hmq hm j hj hj2 => by
   rcases Nat.lt_or_ge j q with h | h
   ·exact hm j (by omega) (by rw [← hcc j h]; exact hj2)
   ·exact ⟨fun h2 => by have := hxq j h2; omega, fun h2 => by omega⟩
  rcases Nat.lt_or_ge i (p + 3) with hi3 | hi3
  ·rcases (show i = p + 1 ∨ i = p + 2 by omega) with rfl | rfl
   ·
    refine reveal (lA := vA l0 o0 p) (lV := vA l0 o0 p) (p + 1) (p + 1) vokA rfl (fun k hk => ?_) (fun k hk => ?_) lenA (by omega) (fun k hk => rfl) rfl (fun k hk => rfl) (fun k hk => rfl) (fun k hk => rfl) tA (bA.trans mA.symm) (by rw [mA]; exact hJ) (okD_spec okA) ltA (fun g' w' a' d f m e n => ⟨d, _, _, g', kA, f, m, e, n⟩) hsz hc hx (hm2 _ (Nat.le_refl _) hx) hD
     (hcq _ _ (p + 1) (by omega) hx fun k hk => rfl) hd hf hm he hn hir (fun ex hex k hk => ?_) (fun k hk => .inl ?_)
    ·rw [txA, tu_map]; split <;> rfl
    ·rw [txA, tu_map]; split <;> exact hk
    ·rw [sAt _ (by omega), txA, at_map (p := p) (by omega), if_neg (by omega)] at hex
     cases hex; cases hk
    ·rw [sAt _ (by omega)]; simpa using hk
   ·by_cases hxp : x.getD p false = true
    ·
     refine reveal (lA := vA l0 o0 p) (lV := vM l0 o0 p) (p + 1) (p + 2) vokM rfl (fun k hk => ?_) (fun k hk => ?_) lenA (by omega) (fun k hk => by rw [eM, eA]; exact same k hk) (fM.trans fA.symm) rMA mMA (clo1 _ _) tM (bM.trans mM.symm) (by rw [mM]; exact hJ) (okD_spec okM) ltM (fun g' w' a' d f m e n => ⟨d, _, _, g', kM, f, m, e, n⟩) hsz hc hx (hm2 _ (Nat.le_refl _) hx) hD
      (hcq _ _ (p + 1) (by omega) hx (clo1 _ _)) hd hf hm he hn hir (fun ex hex k hk => ?_) (fun k hk => ?_)
     ·rw [txM, tu_map, swI_lo hk]; split <;> rfl
     ·rw [txM, tu_map]
      split
      ·show p + 1 ≤ swI (p + 1) k
       unfold swI; split
       ·omega
       ·split <;> omega
      ·exact hk
     ·rw [sMt _ (by omega), swI_q, txM, at_map (p := p) (by omega), if_pos rfl] at hex
      have hex := congrArg (fun z : Option (Nat × List Nat) => z.map Prod.snd) hex
      simp only [Option.map_some, Option.some.injEq] at hex
      rw [← hex] at hk
      have : k = p := by simpa using hk
      rw [this]; exact hxp
     ·rw [sMt _ (by omega), swI_q]
      simp only [List.mem_cons, List.not_mem_nil, or_false] at hk
      rcases hk with rfl | rfl
      ·exact .inr ⟨by omega, hxp⟩
      ·exact .inl rfl
    ·
     have hx0 : ∀ i, x.getD i false = true → i < p := fun i h => by
      have := hx i h
      by_cases e : i = p
      ·rw [e] at h; exact absurd h hxp
      ·omega
     refine reveal (lA := vA l0 o0 p) (lV := vB l0 o0 p) p (p + 2) vokB rfl (fun k hk => ?_) (fun k hk => ?_) lenA (by omega) (fun k hk => by rw [eB, eA, loP hk, loP hk]) (fB.trans fA.symm) rBA mBA (clo _ _) tB (bB.trans mB.symm) (by rw [mB]; exact hJ) (okD_spec okB) ltB (fun g' w' a' d f m e n => ⟨d, _, _, g', kB, f, m, e, n⟩) hsz hc hx0 (hm2 _ (by omega) hx0) hD
      (hcq _ _ p (by omega) hx0 (clo _ _)) hd hf hm he hn hir (fun ex hex k hk => ?_) (fun k hk => .inl ?_)
     ·rw [txB, tu_map]
      split
      ·show (if k = p then p + 2 else if k = p + 1 then p else if k = p + 2 then p + 1 else k) = k
       rw [if_neg (by omega), if_neg (by omega), if_neg (by omega)]
      ·rfl
     ·rw [txB, tu_map]
      split
      ·show p ≤ (if k = p then p + 2 else if k = p + 1 then p else if k = p + 2 then p + 1 else k)
       split
       ·omega
       ·split
        ·omega
        ·split <;> omega
      ·exact hk
     ·rw [sBt _ (by omega), if_neg (by omega), if_neg (by omega), if_pos rfl, txB, at_map (p := p) (by omega), if_pos rfl, if_neg (by omega)] at hex
      cases hex; cases hk
     ·rw [sBt _ (by omega), if_neg (by omega), if_neg (by omega), if_pos rfl]; simpa using hk
  ·
   exfalso
   have := hops i (by omega)
   rw [ho] at this
   simp only [Bool.and_eq_true, Bool.or_eq_true, decide_eq_true_eq, List.any_eq_true] at this
   rcases this.1 with h | ⟨e, he, hb, hge⟩
   ·omega
   ·have := hx _ (hpe e (Array.mem_toList_iff.1 he) hb)
    omega)
 refine wp_region_any hm (hdr _ _ _ ?_)
 have hrep : ∀ (n i : Nat), (Array.replicate n false).getD i false = false := fun n i => by
  simp [Array.getElem?_replicate]; split <;> rfl
 refine sim_V (o0 := o0) hv _ _ (Array.replicate l.toArray.size false) a _ (fun k hk => by cases hk) (fun i => by rw [hrep, hrep]) (by simp) (by simp) ?_
 rw [h0]
 refine main _ _ fr H g _ a (by simp [lenA, hlen0]) (by simp) (fun i hi => ?_) ?_ hd hf hmr.drawn ⟨.refl _ _, fun _ _ h => ⟨h, rfl⟩, Nat.le_refl _, rfl, rfl, rfl⟩ hl
 ·rw [hrep] at hi; cases hi
 refine ⟨fun i o _ hD => ?_, fun i o t _ hD => ?_, fun t _ => by rw [fA], 0, Nat.zero_le _, fun j hj _ => ⟨fun hD => ?_, fun h => absurd h (Nat.not_lt_zero _)⟩, mA.symm⟩
 ·rw [hrep] at hD; cases hD
 ·rw [hrep] at hD; cases hD
 ·rw [hrep] at hD; cases hD
theorem aw_draw3L {P : Program} {N n0 : Nat} {fr : Frm} {H : Mem} {Q : Exit → Frm → Mem → Prop} {id : Nat} {l : List Oper} (hm : P.follows .mixedOrders = true) {o0 : Oper} (hl0 : l[0]? = some o0) (σ0 tx : List Nat) (p : Nat) (c : List Nat) (c1 : Nat) (cA cM cB : List Nat)
  {o1 : Oper} (h1 : (mkV l o0 σ0 (tx.map fun k => (k, [])))[p]? = some o1) (hv : okV l.length σ0 (tx.map fun k => (k, [])) [] = true) (hok : ok3 (mkV l o0 σ0 (tx.map fun k => (k, []))) o0 N p c c1 cA cM cB = true)
  (eA : (vA (mkV l o0 σ0 (tx.map fun k => (k, []))) o0 p).take (p + 1) = (mkV l o0 σ0 (tx.map fun k => (k, []))).take (p + 1)) (eM : (vM (mkV l o0 σ0 (tx.map fun k => (k, []))) o0 p).take (p + 1) = (mkV l o0 σ0 (tx.map fun k => (k, []))).take (p + 1)) (eB : (vB (mkV l o0 σ0 (tx.map fun k => (k, []))) o0 p).take p = (mkV l o0 σ0 (tx.map fun k => (k, []))).take p) (J : Mem → Prop) (hJ : J H)
  (h : DRun P J false (mkV l o0 σ0 (tx.map fun k => (k, []))).toArray c ((mkV l o0 σ0 (tx.map fun k => (k, []))).take p) fr H H (fun fr' H' => DRun P J false (vB (mkV l o0 σ0 (tx.map fun k => (k, []))) o0 p).toArray cB ((vB (mkV l o0 σ0 (tx.map fun k => (k, []))) o0 p).drop p) fr' H H' (fun fr H => Q .normal fr H) ∧
   DRun P J false (mkV l o0 σ0 (tx.map fun k => (k, []))).toArray [c1] [o1] fr' H H' (fun fr' H' =>
   DRun P J false (vA (mkV l o0 σ0 (tx.map fun k => (k, []))) o0 p).toArray cA ((vA (mkV l o0 σ0 (tx.map fun k => (k, []))) o0 p).drop (p + 1)) fr' H H' (fun fr H => Q .normal fr H) ∧
   DRun P J false (vM (mkV l o0 σ0 (tx.map fun k => (k, []))) o0 p).toArray cM ((vM (mkV l o0 σ0 (tx.map fun k => (k, []))) o0 p).drop (p + 1)) fr' H H' (fun fr H => Q .normal fr H)))) :
  aw P N n0 (.region id l.toArray true) fr H Q := by
 generalize hl : mkV l o0 σ0 (tx.map fun k => (k, [])) = l0 at *
 have hp : p < l0.length := (List.getElem?_eq_some_iff.1 h1).1
 have ho1 : l0[p] = o1 := (List.getElem?_eq_some_iff.1 h1).2
 have e1 : l0.take (p + 1) = l0.take p ++ [o1] := by rw [List.take_add_one, h1]; rfl
 have e0 : l0 = l0.take p ++ o1 :: l0.drop (p + 1) := by
  conv => lhs; rw [← List.take_append_drop (p + 1) l0, e1, List.append_assoc]
  rfl
 have k2 : ∀ r : List Oper, r.take (p + 1) = l0.take (p + 1) → r = l0.take p ++ o1 :: r.drop (p + 1) := fun r hr => by
  conv => lhs; rw [← List.take_append_drop (p + 1) r, hr, e1, List.append_assoc]
  rfl
 exact aw_draw3 hm (fun _ _ _ h => h) o0 σ0 (tx.map fun k => (k, [])) p c c1 cA cM cB hv hl hok (by rw [List.length_take]; omega) e0 (k2 _ eA) (k2 _ eM) (by conv => lhs; rw [← List.take_append_drop p (vB l0 o0 p), eB]) J hJ h
theorem aw_draw3D {P : Program} {N n0 : Nat} {fr : Frm} {H : Mem} {Q : Exit → Frm → Mem → Prop} {id : Nat} {l : List Oper} (hm : P.follows .mixedOrders = true) (kd qd : Nat) (hlow : lowE l = true) {o0 : Oper} (hl0 : l[0]? = some o0) (σ0 tx : List Nat) (p : Nat) (c : List Nat) (c1 : Nat) (cA cM cB : List Nat)
  {o1 : Oper} (h1 : (mkV (dropB kd qd l) o0 σ0 (tx.map fun k => (k, [])))[p]? = some o1) (hv : okV (dropB kd qd l).length σ0 (tx.map fun k => (k, [])) [] = true) (hok : ok3 (mkV (dropB kd qd l) o0 σ0 (tx.map fun k => (k, []))) o0 N p c c1 cA cM cB = true)
  (eA : (vA (mkV (dropB kd qd l) o0 σ0 (tx.map fun k => (k, []))) o0 p).take (p + 1) = (mkV (dropB kd qd l) o0 σ0 (tx.map fun k => (k, []))).take (p + 1)) (eM : (vM (mkV (dropB kd qd l) o0 σ0 (tx.map fun k => (k, []))) o0 p).take (p + 1) = (mkV (dropB kd qd l) o0 σ0 (tx.map fun k => (k, []))).take (p + 1)) (eB : (vB (mkV (dropB kd qd l) o0 σ0 (tx.map fun k => (k, []))) o0 p).take p = (mkV (dropB kd qd l) o0 σ0 (tx.map fun k => (k, []))).take p) (J : Mem → Prop) (hJ : J H)
  (h : DRun P J false (mkV (dropB kd qd l) o0 σ0 (tx.map fun k => (k, []))).toArray c ((mkV (dropB kd qd l) o0 σ0 (tx.map fun k => (k, []))).take p) fr H H (fun fr' H' => DRun P J false (vB (mkV (dropB kd qd l) o0 σ0 (tx.map fun k => (k, []))) o0 p).toArray cB ((vB (mkV (dropB kd qd l) o0 σ0 (tx.map fun k => (k, []))) o0 p).drop p) fr' H H' (fun fr H => Q .normal fr H) ∧
   DRun P J false (mkV (dropB kd qd l) o0 σ0 (tx.map fun k => (k, []))).toArray [c1] [o1] fr' H H' (fun fr' H' =>
   DRun P J false (vA (mkV (dropB kd qd l) o0 σ0 (tx.map fun k => (k, []))) o0 p).toArray cA ((vA (mkV (dropB kd qd l) o0 σ0 (tx.map fun k => (k, []))) o0 p).drop (p + 1)) fr' H H' (fun fr H => Q .normal fr H) ∧
   DRun P J false (vM (mkV (dropB kd qd l) o0 σ0 (tx.map fun k => (k, []))) o0 p).toArray cM ((vM (mkV (dropB kd qd l) o0 σ0 (tx.map fun k => (k, []))) o0 p).drop (p + 1)) fr' H H' (fun fr H => Q .normal fr H)))) :
  aw P N n0 (.region id l.toArray true) fr H Q := by
 generalize hl : mkV (dropB kd qd l) o0 σ0 (tx.map fun k => (k, [])) = l0 at *
 have hp : p < l0.length := (List.getElem?_eq_some_iff.1 h1).1
 have ho1 : l0[p] = o1 := (List.getElem?_eq_some_iff.1 h1).2
 have e1 : l0.take (p + 1) = l0.take p ++ [o1] := by rw [List.take_add_one, h1]; rfl
 have e0 : l0 = l0.take p ++ o1 :: l0.drop (p + 1) := by
  conv => lhs; rw [← List.take_append_drop (p + 1) l0, e1, List.append_assoc]
  rfl
 have k2 : ∀ r : List Oper, r.take (p + 1) = l0.take (p + 1) → r = l0.take p ++ o1 :: r.drop (p + 1) := fun r hr => by
  conv => lhs; rw [← List.take_append_drop (p + 1) r, hr, e1, List.append_assoc]
  rfl
 exact aw_draw3 (l := dropB kd qd l) hm (fun QQ a w h => by
  have e : (dropB kd qd l).toArray.size = l.toArray.size := by simp [dropB_len]
  rw [e] at h
  exact drop_any hlow _ _ _ _ (by simp) h) o0 σ0 (tx.map fun k => (k, [])) p c c1 cA cM cB hv hl hok (by rw [List.length_take]; omega) e0 (k2 _ eA) (k2 _ eM) (by conv => lhs; rw [← List.take_append_drop p (vB l0 o0 p), eB]) J hJ h
end Go.Proofs.Ytpkcdabbijaklaa.Am
namespace Go.Proofs.Ytpkcdabbijaklaa.Am
open Go
set_option linter.unusedVariables false
section
variable {α : Type} {P : Program} {fr : Frm} {H : Mem} {dst : Option Nat} {ty : TypeId} {pos : String} {after : Array Edge} {guard : Option (Nat × Bool)}
end
end Go.Proofs.Ytpkcdabbijaklaa.Am
namespace Go.Proofs.Ytpkcdabbijaklaa.Am
open Go
set_option linter.unusedVariables false
section
variable {P : Program} {fr : Frm} {H : Mem} {K : AV → Mem → Prop} {dst : Option Nat} {ty : TypeId} {pos : String} {after : Array Edge} {guard : Option (Nat × Bool)}
end
end Go.Proofs.Ytpkcdabbijaklaa.Am
namespace Go.Proofs.Ytpkcdabbijaklaa.Am
open Go
set_option linter.unusedVariables false
def Tr.rd : Tr → AV
 | .av a => a
 | .sr z es => .sl z es .no
 | _ => .any
theorem TrR.rd {g : Gh} {n : Nat} {w : World} {ow : Nat → Option (List Nat)} {p : List Nat} {t : Tr} {v : Value} (h : TrR g n w ow p t v) : VR g n t.rd v := by
 cases h with
 | av _ a _ h => exact h
 | sr _ z es a len cap hl h hk => exact h
 | srn _ z => exact .nil z .no fun t e => by cases e
 | hs => exact .any _
 | hn => exact .any _
 | pt => exact .any _
 | mp => exact .any _
theorem EntR.rd {g : Gh} {n : Nat} {w : World} {id : Nat} {cs : List Tr} (h : EntR g n w id (.tr cs)) : EntR g n w id (.cells (cs.map Tr.rd)) := by
 rcases h with ⟨h1, h2⟩ | ⟨ow, h0, h1, h2, h3, h4, h5⟩
 ·exact .inl ⟨by rw [h1]; rfl, h2⟩
 refine .inr ⟨h0 _ _ h1, h2, by simpa using h3, h4, fun k c hc => ?_⟩
 rw [List.getElem?_map] at hc
 cases hk : cs[k]? with
 | none => rw [hk] at hc; cases hc
 | some t =>
  rw [hk] at hc; cases hc
  obtain ⟨v, hv, hr⟩ := h5 k t hk
  exact ⟨v, hv, hr.rd⟩
def setT (cs : List Tr) (k : Nat) : List AV → List Tr
 | [] => cs
 | v :: vs => setT (cs.set k (.av v)) (k + 1) vs
theorem setT_length (cs : List Tr) (k : Nat) (vs : List AV) : (setT cs k vs).length = cs.length := by
 induction vs generalizing cs k with
 | nil => rfl
 | cons v vs ih => simp only [setT]; rw [ih]; simp
theorem setT_lt (cs : List Tr) (k : Nat) (vs : List AV) {i : Nat} (h : i < k) : (setT cs k vs)[i]? = cs[i]? := by
 induction vs generalizing cs k with
 | nil => rfl
 | cons v vs ih => simp only [setT]; rw [ih _ _ (by omega), List.getElem?_set_ne (by omega)]
theorem setT_ge (cs : List Tr) (k : Nat) (vs : List AV) {i : Nat} (h : k + vs.length ≤ i) : (setT cs k vs)[i]? = cs[i]? := by
 induction vs generalizing cs k with
 | nil => rfl
 | cons v vs ih => simp only [setT]; simp only [List.length_cons] at h; rw [ih _ _ (by omega), List.getElem?_set_ne (by omega)]
theorem setT_in (cs : List Tr) (k : Nat) (vs : List AV) {j : Nat} (hj : j < vs.length) (h : k + vs.length ≤ cs.length) : (setT cs k vs)[k + j]? = (vs[j]?).map .av := by
 induction vs generalizing cs k j with
 | nil => simp at hj
 | cons v vs ih =>
  simp only [setT]
  simp only [List.length_cons] at h hj
  cases j with
  | zero =>
   rw [setT_lt _ _ _ (by omega)]
   have h3 : k < cs.length := by omega
   simp [List.getElem?_set_self h3]
  | succ j => rw [show k + (j + 1) = k + 1 + j by omega, ih _ _ (by omega) (by simp; omega)]; rfl
section
variable {P : Program} {fr : Frm} {H : Mem} {dst : Option Nat} {ty : TypeId} {pos : String} {after : Array Edge} {guard : Option (Nat × Bool)}
theorem o_loadT {t : TypeId} {x : Operand} {q : Nat × Nat × Option Value} {id off : Nat} {cs : List Tr} {c : Tr} {r : AV} (hag : aggT P t = some false) (hti : tinf P t = some q) (hx : aev fr x = .pt id off) (hm0 : H[id]? = some (.tr cs))
  (hc : cs[off]? = some c) (h : AVLe c.rd r) : OpS P ⟨dst, .load t x, ty, pos, after, guard⟩ fr H (Det r H) := fun g w ev hop hm => by
 have hm1 := hm.retell (hm.ent id _ hm0).rd
 have hx1 := hop x (by simp [Op.operands])
 have hlen : (H.set id (.cells (cs.map Tr.rd))).length = H.length := by simp
 obtain ⟨ad, e, u, hr, r', hk, hv⟩ := loadVar_sound (P := P) (t := t) (K := fun r _ => r = c.rd) hm1 (by rw [hlen]; exact hx1) (by
  simp only [aLoad, hag, hti, hx]
  rw [get_self hm0]
  simp only [List.getElem?_map, hc, Option.map_some])
 have : (execOp ev ⟨dst, .load t x, ty, pos, after, guard⟩).run P w = .ok (.value u) w := by
  simp only [execOp, Instr.loadAt, e, Instr.sureAddr, Sem.run_bind, Sem.run_pure, Result.andThen_ok, hr]
 rw [this]
 subst hk
 rw [hlen] at hv
 exact sr_here hm hv ⟨h, rfl⟩
theorem MR.putT {g : Gh} {H : Mem} {w w1 : World} {id : Nat} {cs cs' : List Tr} {c c' : Array Value} {e : TypeId} {fr : Nat × Nat} (hm : MR g H w) (hid : H[id]? = some (.tr cs)) (hne0 : cs ≠ [])
  (hb : w.heap[(g.mu id).b]? = some (.cells c e fr)) (hu : Upd w w1 (g.mu id).b (.cells c' e fr)) (hs : c'.size = c.size) (hl : cs'.length = cs.length)
  (hv : ∀ (k : Nat) t, cs'[k]? = some t → (cs[k]? = some t ∧ c'[(g.mu id).o + k]? = c[(g.mu id).o + k]?) ∨ ∃ a v, t = .av a ∧ c'[(g.mu id).o + k]? = some v ∧ VR g H.length a v) :
  MR g (H.set id (.tr cs')) w1 ∧ Ev H.length g w g w1 := by
 have hx := hm.ent id _ hid
 obtain ⟨ow, h0, h1, h2, h3, h4, h5⟩ := hx.resolve_left fun h => hne0 h.1
 have h1' := h0 _ _ h1
 have hlt := (hm.ow _ _ h1').1
 refine ⟨⟨fun b o v hro => ?_, fun id' x hx => ?_, fun b id' ho => ?_⟩, ⟨.refl _ _, fun b hb' ho => ⟨ho, hu.other fun hbb => ?_⟩, by rw [hu.size]; omega, hu.os, hu.tape, hu.output⟩⟩
 ·have := hm.ro b o v hro
  rw [hu.cell_other]
  ·exact this
  ·intro hbb; simp only at hbb; rw [hbb, h4] at hro; cases hro
 ·rcases get_set hx with ⟨hne, hx⟩ | ⟨rfl, rfl, _⟩
  ·have hid' := lt_of_get hx
   have he := hm.ent id' x hx
   rcases he.own hid' with hfr' | hown
   ·exact hfr' _ _ _ (.refl _ _)
   ·refine he.keep hid' (.refl _ _) (by simp) fun b hown => ⟨hown, fun _ => rfl, hu.other fun hbb => ?_⟩
    rw [hbb, h1'] at hown; cases hown; exact hne rfl
  ·simp only [EntR]
   refine .inr ⟨ow, h0, h1, ?_, by omega, h4, fun k t ht => ?_⟩
   ·obtain ⟨c2, e2, fr2, g1, g2, g3⟩ := h2
    rw [hb] at g1; cases g1
    exact ⟨c', e, fr, hu.same hlt, by omega, g3⟩
   ·rcases hv k t ht with ⟨q1, q2⟩ | ⟨a, v, rfl, q1, q2⟩
    ·obtain ⟨v, v1, v2⟩ := h5 k t q1
     refine ⟨v, ?_, v2.move (.refl _ _) (by simp) [k] fun b r hr => ⟨hr, fun _ => rfl, hu.other fun hbb => ?_⟩⟩
     ·unfold World.cell? at v1 ⊢
      rw [hu.same hlt]
      simp only [hb] at v1
      rw [if_neg (by simp)] at v1
      show c'[_]? = _
      rw [q2]; exact v1
     ·rw [hbb, h1] at hr; simp at hr
    ·refine ⟨v, ?_, .av _ _ _ (by simpa using q2)⟩
     unfold World.cell?
     rw [hu.same hlt]; exact q1
 ·have := hm.ow b id' ho
  rw [hu.size]; exact ⟨this.1, by simpa using this.2⟩
 ·rw [hbb, h1'] at ho; cases ho
theorem o_storeT {t : TypeId} {x y : Operand} {sz by_ : Nat} {z : Option Value} {id off : Nat} {cs cs' : List Tr} {v : AV} {H1 : Mem} (hti : tinf P t = some (sz, by_, z)) (hx0 : aev fr x = .pt id off) (hy0 : aev fr y = v) (he : H[id]? = some (.tr cs))
  (hsz0 : sz ≠ 0) (hf : v.flat = true) (hlen : v.cells.length = sz) (hcel : v.cells.all AV.cellish = true) (hoff : off + sz ≤ cs.length) (hse : setT cs off v.cells = cs') (hM : H1 = H.set id (.tr cs')) :
  OpS P ⟨dst, .store t x y, ty, pos, after, guard⟩ fr H (Det undefA H1) := fun g w ev hop hm => by
 subst hy0 hse hM
 have hx := hop x (by simp [Op.operands])
 have hy := hop y (by simp [Op.operands])
 rw [hx0] at hx
 have hne0 : cs ≠ [] := fun e => by rw [e] at hoff; simp at hoff; omega
 have hcells := hy.cells hf
 have hsz : (ev y).cells.size = sz := hcells.1.trans hlen
 obtain ⟨h1, h2, h3, h4, h5⟩ := (hm.retell (hm.ent id _ he).rd).owned (get_self he) (.inl (by simpa using hne0))
 obtain ⟨c, el, frz, hb, hl, hfr⟩ := h2
 rw [List.length_map] at h3
 rw [show (H.set id (.cells (cs.map Tr.rd))).length = H.length by simp] at h5
 generalize hvx : ev x = vx at *
 cases hx with
 | pt _ _ hid =>
  have hlist : (ev y).cells.toList.length = sz := by simpa using hsz
  obtain ⟨w1, hr, hu⟩ := run_storeCells (P := P) el frz ⟨(g.mu id).b, (g.mu id).o + off, none⟩ rfl (ev y).cells.toList 0 w c hb (oneCells hcells hcel) (by simp only [hlist]; omega) (fun o a1 a2 => hfr o (by simp only [hlist] at a2; omega))
  have : (execOp ev ⟨dst, .store t x y, ty, pos, after, guard⟩).run P w = .ok .skip w1 := by
   simp only [execOp, Instr.storeAt, hvx, Instr.sureAddr, Sem.run_bind, Sem.run_pure, Result.andThen_ok, storeVar, run_sizeOf hti, hsz, ne_eq, not_true_eq_false, if_false, Sem.run_ite, hr]
  rw [this]
  have hrel := setAt_rel (m := (g.mu id).o) (k := off) (fun i a ha => by
   obtain ⟨v, q1, q2⟩ := h5 i a ha
   refine ⟨v, ?_, q2⟩
   unfold World.cell? at q1; simp only [hb] at q1; rw [if_neg (by simp)] at q1; exact q1) (vs := (aev fr y).cells) (ws := (ev y).cells.toList) (by simpa using hcells) (by simp; omega) (by simp; omega)
  obtain ⟨m1, m2⟩ := hm.putT (cs' := setT cs off (aev fr y).cells) he hne0 hb hu (updA_size _ _ _) (setT_length _ _ _) (fun k t ht => by
   simp only [Nat.add_zero]
   rcases Nat.lt_or_ge k off with h | h
   ·rw [setT_lt _ _ _ h] at ht
    exact .inl ⟨ht, updA_lt _ _ _ (by omega)⟩
   ·rcases Nat.lt_or_ge k (off + sz) with h2 | h2
    ·obtain ⟨j, rfl⟩ : ∃ j, k = off + j := ⟨k - off, by omega⟩
     rw [setT_in _ _ _ (by omega) (by omega)] at ht
     cases hj : (aev fr y).cells[j]? with
     | none => rw [hj] at ht; cases ht
     | some a =>
      rw [hj] at ht; cases ht
      obtain ⟨v, q1, q2⟩ := hrel (off + j) a (by rw [setAt_in _ _ _ (by omega) (by simp; omega), hj])
      exact .inr ⟨a, v, rfl, q1, q2⟩
    ·rw [setT_ge _ _ _ (by omega)] at ht
     exact .inl ⟨ht, updA_ge _ _ _ (by rw [hlist]; omega)⟩)
  exact ⟨_, _, g, ⟨.refl _, rfl⟩, .sc _, m1, m2, by simp⟩
end
end Go.Proofs.Ytpkcdabbijaklaa.Am
namespace Go.Proofs.Ytpkcdabbijaklaa.Am
open Go
set_option linter.unusedVariables false
section
variable {P : Program} {fr : Frm} {H : Mem} {dst : Option Nat} {ty : TypeId} {pos : String} {after : Array Edge} {guard : Option (Nat × Bool)}
end
theorem pre_at0 {A M M1 : Mem} {p : Nat} {c x : Ent} (h : M1 = M.set p x) (hp : A.set p c <+: M) (hl : p < A.length) : A.set p x <+: M1 := by
 have q := pre_lo (i := p) (x := x) hp (by simpa using hl)
 rw [h]; rw [List.set_set] at q; exact q
abbrev Tr.CloN (n : Nat) (t : Tr) : Prop := t.All (Am.Bd n)
theorem CloN.nil {n : Nat} : ∀ c ∈ ([] : List Tr), c.CloN n := fun c h => by cases h
theorem CloN.cons {n : Nat} {t : Tr} {l : List Tr} (h : t.CloN n) (hl : ∀ c ∈ l, c.CloN n) : ∀ c ∈ t :: l, c.CloN n := fun c hc => by
 rcases List.mem_cons.1 hc with rfl | hc
 ·exact h
 ·exact hl c hc
theorem CloN.of {n : Nat} {t : Tr} (h : t.Clo) : t.CloN n := h.mono fun _ ha => AV.clo1_bd ha
end Go.Proofs.Ytpkcdabbijaklaa.Am
namespace Go.Proofs.Ytpkcdabbijaklaa.Am
open Go
set_option linter.unusedVariables false
def rowT {α : Type} (z : Nat) (c : α → List PV) (r : List α) : Tr := .hs z r.length (((r.map c).flatten.map PV.av).map .av)
section
variable {α : Type} {c : α → List PV} {z : Nat}
theorem RebM.takeRow {H : Mem} {p k : Nat} {rows : List (List α)} {r : List α} (hp : H[p]? = some (.tr (rows.map (rowT z c)))) (hk : rows[k]? = some r) :
  RebM H (H.set p (.tr ((rows.map (rowT z c)).set k (.av (.hs H.length 0 r.length r.length z)))) ++ [.cells ((r.map c).flatten.map PV.av)]) :=
 RebM.unfH (k := k) (z := z) (len := r.length) hp (by rw [List.getElem?_map, hk]; rfl) rfl
theorem RebM.putRow {H : Mem} {p q k n mc : Nat} {rows rows2 : List (List α)} {r : List α} (hz : ∀ a, (c a).length = z) (hp : H[p]? = some (.tr ((rows.map (rowT z c)).set k (.av (.hs q 0 n mc z))))) (hq : H[q]? = some (.cells ((r.map c).flatten.map PV.av))) (hpq : p ≠ q) (hk : k < rows.length) (hn : r.length = n)
  (h2 : rows2 = rows.set k r) : RebM H ((H.set p (.tr (rows2.map (rowT z c)))).set q .dead) := by
 subst hn h2
 have hl : ((r.map c).flatten.map PV.av).length = r.length * z := flat_len hz r
 exact RebM.foldH (k := k) (z := z) (off := 0) hp hq hpq (by rw [List.getElem?_set_self (by simpa using hk)]) (by omega) (by
  rw [List.set_set, List.map_set, List.drop_zero, ← hl, List.take_length]; rfl)
theorem RebM.nilRows {H : Mem} {p n : Nat} (hp : H[p]? = some (.cells (List.replicate n (.sc (.slice none 0 0))))) : RebM H (H.set p (.tr ((List.replicate n ([] : List α)).map (rowT z c)))) := .tell fun g w hm => by
 rcases hm.ent p _ hp with ⟨h1, h2⟩ | ⟨h1, h2, h3, h4, h5⟩
 ·refine .inl ⟨?_, h2⟩
  have : n = 0 := by cases n; rfl; cases h1
  subst this; rfl
 refine .inr ⟨fun b => if b = (g.mu p).b then some [] else none, fun b q hb => ?_, by simp, h2, by simpa using h3, h4, fun k t hk => ?_⟩
 ·simp only at hb
  split at hb
  ·rename_i e; rw [e]; exact h1
  ·cases hb
 ·have hkn : k < n := by have := lt_of_get hk; simpa using this
  rw [List.getElem?_map, List.getElem?_replicate_of_lt hkn] at hk
  cases hk
  obtain ⟨v, hv, hr⟩ := h5 k _ (List.getElem?_replicate_of_lt hkn)
  refine ⟨v, hv, ?_⟩
  have := VR_sc hr
  subst this
  exact .hn _ z none
theorem RebM.frzT {H : Mem} {p id k n mc : Nat} {l : List α} {cs : List Tr} (hz : ∀ a, (c a).length = z) (hp0 : ∀ a, ((c a).map PV.av).mapM AV.pv = some (c a)) (hid : H[id]? = some (.cells ((l.map c).flatten.map PV.av))) (hn : l.length = n)
  (hp : H[p]? = some (.tr cs)) (hpi : p ≠ id) (hk : cs[k]? = some (.av (.hs id 0 n mc z))) : RebM H ((H.set id .dead).set p (.tr (cs.set k (.av (.sl z (l.map c) .no))))) := by
 refine ⟨by simp, fun g w hm => ?_⟩
 subst hn
 obtain ⟨hm1, hg1⟩ := hm.freeze hid
 have hlen : (H.set id Ent.dead).length = H.length := by simp
 have hp1 : (H.set id Ent.dead)[p]? = some (.tr cs) := get_ne hpi hp
 have hidl := lt_of_get hid
 refine ⟨_, hm1.retell ?_, ⟨hg1, fun b _ ho => ⟨ho, rfl⟩, Nat.le_refl _, rfl, rfl, rfl⟩⟩
 refine (hm1.ent p _ hp1).retr hk fun ow v h => ?_
 refine .av _ _ _ ?_
 rw [hlen]
 cases h with
 | av _ _ _ h =>
  rw [hlen] at h
  generalize hq : l.length = q at h
  generalize hgm : g.fz w id ((l.map c).flatten.map PV.av).length = g1 at h hg1
  cases h with
  | hs _ _ _ _ _ cap hidl hll hmc hcap =>
   have := freeze_row (n := H.length) (off := 0) (len := q) (s := z) (cap := cap) hm hid (mapM_flat hp0 l) (by rw [flat_len hz, hq]; omega) (Nat.le_trans hll hmc)
   rw [← hq, chunk_flat hz, hgm] at this
   rw [← hq, hg1.mu id hidl]; exact this
  | hn _ _ _ a hidl =>
   have : l = [] := List.eq_nil_of_length_eq_zero hq
   subst this
   cases a with
   | none => exact .nil z .no fun t e => by cases e
   | some a => exact VR.sl z [] .no a 0 (fun _ => undef) (.inl rfl) (Nat.le_refl _) (fun e he => by cases he) (fun k p hk => by simp at hk) trivial
def frz (z : Nat) (c : α → List PV) (rows : List (List α)) (k : Nat) : List Tr := (rows.take k).map (fun r => Tr.av (.sl z (r.map c) .no)) ++ (rows.drop k).map (rowT z c)
theorem RebM.frzRows {H : Mem} {p : Nat} {rows : List (List α)} (hz : ∀ a, (c a).length = z) (hp0 : ∀ a, ((c a).map PV.av).mapM AV.pv = some (c a)) (hp : H[p]? = some (.tr (rows.map (rowT z c)))) :
  ∀ k, k ≤ rows.length → RebM H (H.set p (.tr (frz z c rows k)) ++ List.replicate k .dead)
 | 0, _ => by
  have : frz z c rows 0 = rows.map (rowT z c) := by simp [frz]
  rw [this, mem_same hp, List.replicate_zero, List.append_nil]
  exact .refl _
 | k + 1, hk => by
  refine (RebM.frzRows hz hp0 hp k (by omega)).trans ?_
  obtain ⟨H1, hH1⟩ : ∃ H1, H1 = H.set p (.tr (frz z c rows k)) ++ List.replicate k Ent.dead := ⟨_, rfl⟩
  have hpl := lt_of_get hp
  have hp1 : H1[p]? = some (.tr (frz z c rows k)) := by rw [hH1]; exact get_app (get_self hp)
  have hat : (frz z c rows k)[k]? = some (rowT z c rows[k]) := by
   unfold frz
   rw [List.getElem?_append_right (by simp; omega)]
   simp only [List.length_map, List.length_take]
   rw [show k - min k rows.length = 0 by omega, List.getElem?_map, List.getElem?_drop, Nat.add_zero, List.getElem?_eq_getElem (by omega)]; rfl
  rw [← hH1]
  have r1 := RebM.unfH (k := k) (z := z) (len := rows[k].length) (es := ((rows[k].map c).flatten.map PV.av)) hp1 hat rfl
  refine r1.trans ?_
  have hset : ∀ x, (H1.set p x)[p]? = some x := fun x => get_self hp1
  have hne : p ≠ H1.length := by have : p < H1.length := lt_of_get hp1; omega
  have r2 := RebM.frzT (p := p) (id := H1.length) (k := k) (n := rows[k].length) (mc := rows[k].length) (l := rows[k]) (cs := (frz z c rows k).set k (.av (.hs H1.length 0 rows[k].length rows[k].length z))) hz hp0
   (H := H1.set p (.tr ((frz z c rows k).set k (.av (.hs H1.length 0 rows[k].length rows[k].length z)))) ++ [.cells ((rows[k].map c).flatten.map PV.av)]) (by rw [List.getElem?_append_right (by simp), List.length_set, Nat.sub_self]; rfl) rfl (get_app (hset _)) hne (by rw [List.getElem?_set_self (lt_of_get hat)])
  refine cast ?_ r2
  congr 1
  rw [List.set_set]
  have e1 : (frz z c rows k).set k (.av (.sl z (rows[k].map c) .no)) = frz z c rows (k + 1) := by
   unfold frz
   rw [List.set_append_right _ _ (by simp; omega)]
   simp only [List.length_map, List.length_take]
   rw [show k - min k rows.length = 0 by omega, List.drop_eq_getElem_cons (show k < rows.length by omega), List.map_cons, List.set_cons_zero, List.take_add_one, List.getElem?_eq_getElem (show k < rows.length by omega), List.map_append, List.append_assoc]
   rfl
  rw [e1]
  rw [List.set_append_right _ _ (by simp), List.length_set, Nat.sub_self, List.set_cons_zero, List.set_append_left _ _ (by simpa using lt_of_get hp1), List.set_set, hH1, List.set_append_left _ _ (by simpa using hpl), List.set_set, List.append_assoc, List.replicate_succ']
theorem RebM.letGo {H : Mem} {p : Nat} {rows : List (List α)} (hz : ∀ a, (c a).length = z) (hp0 : ∀ a, ((c a).map PV.av).mapM AV.pv = some (c a)) (hp : H[p]? = some (.tr (rows.map (rowT z c)))) :
  RebM H (H.set p (.cells ((rows.map (c_L z c)).flatten.map PV.av)) ++ List.replicate rows.length .dead) := by
 have r1 := RebM.frzRows hz hp0 hp rows.length (Nat.le_refl _)
 have e : frz z c rows rows.length = ((rows.map (c_L z c)).flatten.map PV.av).map Tr.av := by
  unfold frz
  rw [List.take_length, List.drop_length, List.map_nil, List.append_nil]
  clear r1 hp
  induction rows with
  | nil => rfl
  | cons r l ih => rw [List.map_cons, List.map_cons, List.flatten_cons, List.map_append, List.map_append, ← ih]; rfl
 have r2 := RebM.cells (H := H.set p (.tr (frz z c rows rows.length)) ++ List.replicate rows.length .dead) (p := p) (get_app (get_self hp)) e
 rw [List.set_append_left _ _ (by simpa using lt_of_get hp), List.set_set] at r2
 exact r1.trans r2
theorem take_at {β : Type} {rows : List (List α)} {f : List α → β} {i : Int} {r : List α} {x : β} (h : idx rows i = some r) : ((rows.map f).set i.toNat x)[i.toNat * 1]? = some x := by
 rw [Nat.mul_one, List.getElem?_set_self (by simpa using lt_of_get (idx_some h).2)]
section
variable {P : Program} {fr : Frm} {H : Mem} {dst : Option Nat} {ty : TypeId} {pos : String} {after : Array Edge} {guard : Option (Nat × Bool)}
theorem o_allocRows {t : TypeId} {s b n : Nat} {zv : Value} {H1 : Mem} (ht : tinf P t = some (s, b, some zv)) (hz : zeroCs zv = List.replicate n (.sc (.slice none 0 0))) (hM : H1 = H ++ [.tr ((List.replicate n ([] : List α)).map (rowT z c))]) :
  OpS P ⟨dst, .alloc t, ty, pos, after, guard⟩ fr H (Det (.pt H.length 0) H1) := by
 have h := (o_alloc (P := P) (fr := fr) (H := H) (dst := dst) (ty := ty) (pos := pos) (after := after) (guard := guard) ht rfl).post (RebM.nilRows (α := α) (c := c) (z := z) (p := H.length) (n := n) (by rw [hz]; simp))
 rw [List.set_append_right _ _ (Nat.le_refl _), Nat.sub_self] at h
 rw [hM]; exact h
theorem o_storeRow {t : TypeId} {x y : Operand} {by_ : Nat} {zz : Option Value} {p e n mc : Nat} {i : Int} {rows rows2 : List (List α)} {r : List α} {H1 : Mem} (hz : ∀ a, (c a).length = z) (hti : tinf P t = some (1, by_, zz)) (hx : aev fr x = .pt p (i.toNat * 1)) (hy : aev fr y = .hs e 0 n mc z)
  (hp : H[p]? = some (.tr (rows.map (rowT z c)))) (he : H[e]? = some (.cells ((r.map c).flatten.map PV.av))) (hne : p ≠ e) (hn : r.length = n) (hu : updL rows i r = some rows2) (hM : H1 = (H.set p (.tr (rows2.map (rowT z c)))).set e .dead) :
  OpS P ⟨dst, .store t x y, ty, pos, after, guard⟩ fr H (Det undefA H1) := by
 obtain ⟨h0, h1, rfl⟩ := updL_some hu
 rw [Nat.mul_one] at hx
 have hlt : i.toNat < rows.length := by omega
 have h := o_storeT (P := P) (fr := fr) (H := H) (dst := dst) (ty := ty) (pos := pos) (after := after) (guard := guard) hti hx hy hp (by omega) rfl rfl rfl (by rw [List.length_map]; omega) rfl rfl
 have r2 := RebM.putRow (H := H.set p (.tr ((rows.map (rowT z c)).set i.toNat (.av (.hs e 0 n mc z))))) (p := p) (q := e) (k := i.toNat) (rows := rows) (r := r) hz (get_self hp) (get_ne hne.symm he) hne hlt hn rfl
 rw [List.set_set] at r2
 rw [hM]
 exact h.post r2
end
end
end Go.Proofs.Ytpkcdabbijaklaa.Am
namespace Go.Proofs.Ytpkcdabbijaklaa.Am
open Go
theorem ti3 : tinf Try.prog 3 = some (1, 8, some (.int .i64 0)) := by kernel_rfl
theorem ag3 : aggT Try.prog 3 = some false := by kernel_rfl
theorem ti5 : tinf Try.prog 5 = some (1, 1, some (.int .u8 0)) := by kernel_rfl
theorem ag5 : aggT Try.prog 5 = some false := by kernel_rfl
theorem ti27 : tinf Try.prog 27 = some (1, 24, some (.slice none 0 0)) := by kernel_rfl
theorem ag27 : aggT Try.prog 27 = some false := by kernel_rfl
theorem ti28 : tinf Try.prog 28 = some (8, 192, some (.agg #[(.slice none 0 0), (.slice none 0 0), (.slice none 0 0), (.slice none 0 0), (.slice none 0 0), (.slice none 0 0), (.slice none 0 0), (.slice none 0 0)])) := by kernel_rfl
theorem ti38 : tinf Try.prog 38 = some (1, 8, some (.map none)) := by kernel_rfl
theorem ag38 : aggT Try.prog 38 = some false := by kernel_rfl
theorem ti39 : tinf Try.prog 39 = some (1, 24, some (.slice none 0 0)) := by kernel_rfl
theorem ag39 : aggT Try.prog 39 = some false := by kernel_rfl
theorem ti41 : tinf Try.prog 41 = some (5, 56, some (.agg #[(.int .i64 0), (.map none), (.map none), (.slice none 0 0), (.int .i64 0)])) := by kernel_rfl
theorem ti43 : tinf Try.prog 43 = some (2, 32, some (.agg #[(.int .i64 0), (.slice none 0 0)])) := by kernel_rfl
theorem ag43 : aggT Try.prog 43 = some true := by kernel_rfl
def pl41 (i : Nat) : Option (Nat × Nat) := [(0, 1), (1, 1), (2, 1), (3, 1), (4, 1)][i]?
theorem fp41 (fs : Array Field) (h : Try.prog.underlying 41 = some (.struct fs)) : ∀ i, fplace Try.prog fs i = pl41 i := by
 rw [Try.underlying41] at h
 cases h
 intro i
 match i with
 | 0 => simp [fplace, pl41, ti3]
 | 1 => simp [fplace, pl41, ti38]
 | 2 => simp [fplace, pl41, ti38]
 | 3 => simp [fplace, pl41, ti39]
 | 4 => simp [fplace, pl41, ti3]
 | n + 5 => simp [fplace, pl41]
theorem fa41 (fs : Array Field) (h : Try.prog.underlying 41 = some (.struct fs)) : fs.all (fun f => (tinf Try.prog f.type).isSome) = true := by
 rw [Try.underlying41] at h
 cases h
 simp [ti3, ti38, ti39]
def pl43 (i : Nat) : Option (Nat × Nat) := [(0, 1), (1, 1)][i]?
theorem fp43 (fs : Array Field) (h : Try.prog.underlying 43 = some (.struct fs)) : ∀ i, fplace Try.prog fs i = pl43 i := by
 rw [Try.underlying43] at h
 cases h
 intro i
 match i with
 | 0 => simp [fplace, pl43, ti3]
 | 1 => simp [fplace, pl43, ti27]
 | n + 2 => simp [fplace, pl43]
theorem fa43 (fs : Array Field) (h : Try.prog.underlying 43 = some (.struct fs)) : fs.all (fun f => (tinf Try.prog f.type).isSome) = true := by
 rw [Try.underlying43] at h
 cases h
 simp [ti27, ti3]
theorem cl3 : callable Try.prog 3 = true := by kernel_rfl
theorem cl4 : callable Try.prog 4 = true := by kernel_rfl
theorem cl5 : callable Try.prog 5 = true := by kernel_rfl
theorem cl6 : callable Try.prog 6 = true := by kernel_rfl
theorem cl7 : callable Try.prog 7 = true := by kernel_rfl
theorem cl8 : callable Try.prog 8 = true := by kernel_rfl
theorem cl9 : callable Try.prog 9 = true := by kernel_rfl
theorem cl10 : callable Try.prog 10 = true := by kernel_rfl
theorem cl11 : callable Try.prog 11 = true := by kernel_rfl
theorem cl12 : callable Try.prog 12 = true := by kernel_rfl
theorem cl13 : callable Try.prog 13 = true := by kernel_rfl
theorem cl14 : callable Try.prog 14 = true := by kernel_rfl
theorem cl15 : callable Try.prog 15 = true := by kernel_rfl
theorem cl16 : callable Try.prog 16 = true := by kernel_rfl
theorem mixed : Try.prog.follows .mixedOrders = true := by kernel_rfl
theorem U3 : type_of% Try.underlying3 := Try.underlying3
theorem U5 : type_of% Try.underlying5 := Try.underlying5
theorem U9 : type_of% Try.underlying9 := Try.underlying9
theorem U22 : type_of% Try.underlying22 := Try.underlying22
theorem U25 : type_of% Try.underlying25 := Try.underlying25
theorem U27 : type_of% Try.underlying27 := Try.underlying27
theorem U28 : type_of% Try.underlying28 := Try.underlying28
theorem U38 : type_of% Try.underlying38 := Try.underlying38
theorem U39 : type_of% Try.underlying39 := Try.underlying39
theorem U41 : type_of% Try.underlying41 := Try.underlying41
theorem U43 : type_of% Try.underlying43 := Try.underlying43
end Go.Proofs.Ytpkcdabbijaklaa.Am
namespace Go.Proofs.Ytpkcdabbijaklaa.Am
open Go
set_option linter.unusedVariables false
set_option maxRecDepth 10000
structure Pdisk_write where
 i : Int
 b : (List Int)
deriving Inhabited
def c_Pdisk_write (x : Pdisk_write) : List PV := [.sc (.int .i64 x.i), .sl 1 (x.b.map c_u8)]
structure Pdisk_Disk where
 n : Int
 sure : (List (Int × (List Int)))
 now : (List (Int × (List Int)))
 l : (List Pdisk_write)
 power : Int
deriving Inhabited
def pdisk_New (n : Int) : Option Pdisk_Disk :=
 (some (Pdisk_Disk.mk (minI (maxI n 0) 1048576) ([] : (List (Int × (List Int)))) ([] : (List (Int × (List Int)))) ([] : (List Pdisk_write)) (-1)))
def pdisk_Disk_dead (d : Pdisk_Disk) : Option (Bool × Pdisk_Disk) :=
 (if (decide (d.power > 0)) then (some (false, (Pdisk_Disk.mk d.n d.sure d.now d.l (IntKind.wrap .i64 (d.power - 1))))) else (some ((d.power == 0), d)))
def pdisk_Disk_Write (d : Pdisk_Disk) (i : Int) (b : (List Int)) : Option (Int × Pdisk_Disk) :=
 ((if (decide (i < 0)) then (some true) else (some (decide (i ≥ d.n)))).bind fun t8 => (if t8 then (some (25, d)) else (if (decide ((b.length : Int) > 64)) then (some (22, d)) else ((pdisk_Disk_dead d).bind fun (y, y2) => (if y then (some (26, y2)) else ((mks 1 0 64).bind fun m => ((if (decide ((y2.l.length : Int) < 64)) then ((app 32 y2.l ([(Pdisk_write.mk i (cpyL m 0 m.length b))] : (List Pdisk_write))).bind fun m91 => (some m91)) else (some y2.l)).bind fun mpd_l => (some (0, (Pdisk_Disk.mk y2.n y2.sure (mset y2.now i (cpyL m 0 m.length b)) mpd_l y2.power))))))))))
def pdisk_Disk_settle (d : Pdisk_Disk) : Option Pdisk_Disk :=
 (some (Pdisk_Disk.mk d.n (munion d.sure d.now) ([] : (List (Int × (List Int)))) ([] : (List Pdisk_write)) d.power))
def pdisk_Disk_Flush (d : Pdisk_Disk) : Option (Int × Pdisk_Disk) :=
 ((pdisk_Disk_dead d).bind fun (y, y1) => (if y then (some (26, y1)) else ((pdisk_Disk_settle y1).bind fun y2 => (some (0, y2)))))
def slices_Clone_Lbyte_byte (vs : (List Int)) : Option (List Int) :=
 ((app 1 ([] : (List Int)) vs).bind fun m => (some m))
def pdisk_sectors_get (vs : (List (Int × (List Int)))) (i : Int) : Option (List Int) :=
 (mcase (mget vs i) (fun b => ((chkE b).bind fun () => ((slices_Clone_Lbyte_byte b).bind fun y => (some y)))) ((mks 1 0 64).bind fun m => (some m)))
def pdisk_Disk_Read (d : Pdisk_Disk) (i : Int) : Option (List Int) :=
 ((if (decide (i < 0)) then (some true) else (some (decide (i ≥ d.n)))).bind fun t15 => (if t15 then (some ([] : (List Int))) else (mcase (mget d.now i) (fun b => ((chkE b).bind fun () => ((slices_Clone_Lbyte_byte b).bind fun y85 => (some y85)))) ((pdisk_sectors_get d.sure i).bind fun y => (some y)))))
def pdisk_Disk_Crash_L1 (a0 : Pdisk_Disk) (a1 : Int) : (Int × Int) → Option (Ctl Int (Int × Int))
 | (t78, t189) => (if (decide (t189 < (a0.l.length : Int))) then (((cnt .u64 t189).bind fun n => (if ((Go.bits .and .u64 (shrI a1 n) 1) == 1) then (some t189) else (some t78))).bind fun t714 => (some (.go (t714, (IntKind.wrap .i64 (t189 + 1)))))) else (early (some t78)))
def pdisk_Disk_Crash_L2 (a0 : Pdisk_Disk) (a1 : Int) (a2 : Int) (t7 : Int) (m : (List Pdisk_write)) : (Int × (List (Int × (List Int)))) → Option (Ctl (List (Int × (List Int))) (Int × (List (Int × (List Int)))))
 | (t43115, mpa0_now116) => (if (decide (t43115 < (m.length : Int))) then (((idx m t43115).bind fun x => ((cnt .u64 t43115).bind fun n184 => (if ((Go.bits .and .u64 (shrI a1 n184) 1) == 0) then (some mpa0_now116) else ((slices_Clone_Lbyte_byte x.b).bind fun y => ((if (t43115 == t7) then (if (decide (a2 ≥ 0)) then (some (decide (a2 < 64))) else (some false)) else (some false)).bind fun t66 => ((if t66 then ((slcH y.length a2 ((y.length : Nat) : Int)).bind fun (o, k215) => ((pdisk_Disk_Read (Pdisk_Disk.mk a0.n a0.sure mpa0_now116 ([] : (List Pdisk_write)) (-1)) x.i).bind fun y217 => ((slc y217 a2 (y217.length : Int)).bind fun m219 => (some (cpyL y o k215 m219))))) else (some y)).bind fun me187 => (some (mset mpa0_now116 x.i me187)))))))).bind fun mpa0_now164 => (some (.go ((IntKind.wrap .i64 (t43115 + 1)), mpa0_now164)))) else (early (some mpa0_now116)))
def pdisk_Disk_Crash (a0 : Pdisk_Disk) (a1 : Int) (a2 : Int) : Option Pdisk_Disk :=
 ((loopN (pdisk_Disk_Crash_L1 a0 a1) fuel ((-1), 0)).bind fun t7 => ((slc a0.l 0 (IntKind.wrap .i64 (t7 + 1))).bind fun m => ((loopN (pdisk_Disk_Crash_L2 a0 a1 a2 t7 m) fuel (0, ([] : (List (Int × (List Int)))))).bind fun mpa0_now => ((pdisk_Disk_settle (Pdisk_Disk.mk a0.n a0.sure mpa0_now ([] : (List Pdisk_write)) (-1))).bind fun y373 => (some y373)))))
def pdisk_Disk_Power (d : Pdisk_Disk) (n : Int) : Option Pdisk_Disk :=
 (some (Pdisk_Disk.mk d.n d.sure d.now d.l (maxI n (-1))))
def pdisk_Disk_Dead (d : Pdisk_Disk) : Option Bool :=
 (some (d.power == 0))
def pdisk_Disk_Len (d : Pdisk_Disk) : Option Int :=
 (some d.n)
def mementolaw3_known : Option Bool :=
 ((pdisk_New 2).bind fun y => ((pdisk_Disk_Write y 0 ([97, 98, 99] : (List Int))).bind fun (y10, y11) => ((pdisk_Disk_Flush y11).bind fun (y16, y17) => ((pdisk_Disk_Write y17 0 ([120, 121, 122] : (List Int))).bind fun (y33, y34) => ((pdisk_Disk_Crash y34 1 2).bind fun y39 => ((pdisk_Disk_Write y39 2 ([] : (List Int))).bind fun (y44, y45) => ((pdisk_Disk_Read y45 0).bind fun y50 => ((pdisk_Disk_Power y45 1).bind fun y52 => ((pdisk_Disk_Flush y52).bind fun (y57, y58) => ((pdisk_Disk_Flush y58).bind fun (y63, y64) => ((if (y10 == 0) then (if (y16 == 0) then (if (y33 == 0) then (if (y44 == 25) then (if ((y50.length : Int) == 64) then ((slc y50 0 3).bind fun m => (if ((strOf m) == ([120, 121, 99] : List UInt8)) then (if (y57 == 0) then (if (y63 == 26) then ((pdisk_Disk_Dead y64).bind fun y79 => (if y79 then ((pdisk_Disk_Len y64).bind fun y82 => (some (y82 == 2))) else (some false))) else (some false)) else (some false)) else (some false))) else (some false)) else (some false)) else (some false)) else (some false)) else (some false)).bind fun t0 => (some t0))))))))))))
def mementolaw3_DiskKeeps_L1 : (Int × (List (List Int)) × (List (List Int))) → Option (Ctl ((List (List Int)) × (List (List Int))) (Int × (List (List Int)) × (List (List Int))))
 | (t1246, me747, me1348) => (if (decide (t1246 < 8)) then (((idx me747 t1246).bind fun vr => ((mks 1 0 64).bind fun m => ((updL me747 t1246 m).bind fun m96 => ((idx me1348 t1246).bind fun vr111 => ((updL me1348 t1246 m).bind fun m112 => (some (m96, m112))))))).bind fun (me759, me1360) => (some (.go ((IntKind.wrap .i64 (t1246 + 1)), me759, me1360)))) else (early (some (me747, me1348))))
def mementolaw3_DiskKeeps_L2 (a0 : (List (List Int))) : (Int × Pdisk_Disk × (List (List Int))) → Option (Ctl (Ctl Bool (Pdisk_Disk × (List (List Int)))) (Int × Pdisk_Disk × (List (List Int))))
 | (t13151, me152, me7153) => (if (decide (t13151 < (a0.length : Int))) then ((idx a0 t13151).bind fun x => (if (decide ((x.length : Int) > 60)) then (early (early (some true))) else ((pdisk_Disk_Write me152 t13151 x).bind fun (y165, y166) => ((idx me7153 t13151).bind fun vr173 => (some (.go ((IntKind.wrap .i64 (t13151 + 1)), y166, (me7153.set (t13151 : Int).toNat (cpyL vr173 0 vr173.length x))))))))) else (early (some (.go (me152, me7153)))))
def mementolaw3_DiskKeeps_L3 (a1 : (List (List Int))) : (Int × Pdisk_Disk × (List (List Int))) → Option (Ctl (Ctl Bool (Pdisk_Disk × (List (List Int)))) (Int × Pdisk_Disk × (List (List Int))))
 | (t14247, me248, me13249) => (if (decide (t14247 < (a1.length : Int))) then ((idx a1 t14247).bind fun x260 => (if (decide ((x260.length : Int) > 60)) then (early (early (some true))) else ((pdisk_Disk_Write me248 t14247 x260).bind fun (y262, y263) => ((idx me13249 t14247).bind fun vr270 => (some (.go ((IntKind.wrap .i64 (t14247 + 1)), y263, (me13249.set (t14247 : Int).toNat (cpyL vr270 0 vr270.length x260))))))))) else (early (some (.go (me248, me13249)))))
def mementolaw3_DiskKeeps_L5 (a1 : (List (List Int))) (a2 : Int) (me7125 : (List (List Int))) (me13221 : (List (List Int))) (t15378 : Int) (y389 : (List Int)) : Int → Option (Ctl (Ctl (Ctl (Ctl Bool Unit) Int) Unit) Int)
 | t17426 => (if (decide (t17426 < 64)) then (((idx y389 t17426).bind fun x445 => ((idx me7125 t15378).bind fun x446 => ((idx x446 t17426).bind fun x447 => (if (x445 != x447) then (if (decide (t15378 ≥ (a1.length : Int))) then (some true) else ((idx me13221 t15378).bind fun x450 => ((idx x450 t17426).bind fun x451 => (if (x445 != x451) then (some true) else ((cnt .u64 t15378).bind fun n => (some ((Go.bits .and .u64 (shrI a2 n) 1) == 0))))))) else (some false))))).bind fun t164 => (if t164 then (early (early (early (early (some false))))) else (some (.go (IntKind.wrap .i64 (t17426 + 1)))))) else (early (some (.go ()))))
def mementolaw3_DiskKeeps_L4 (a1 : (List (List Int))) (a2 : Int) (me7125 : (List (List Int))) (me13221 : (List (List Int))) (y310 : Pdisk_Disk) : Int → Option (Ctl (Ctl Bool Unit) Int)
 | t15378 => (if (decide (t15378 < 8)) then ((pdisk_Disk_Read y310 t15378).bind fun y389 => ((if ((y389.length : Int) != 64) then (some true) else (if (decide (t15378 ≥ (a1.length : Int))) then ((idx me7125 t15378).bind fun x401 => (some ((strOf y389) != (strOf x401)))) else (some false))).bind fun t123 => (if t123 then (early (early (some false))) else (kont (loopN (mementolaw3_DiskKeeps_L5 a1 a2 me7125 me13221 t15378 y389) fuel 0) fun () => (some (.go (IntKind.wrap .i64 (t15378 + 1)))))))) else (early (some (.go ()))))
def mementolaw3_DiskKeeps (a0 : (List (List Int))) (a1 : (List (List Int))) (a2 : Int) (a3 : Int) : Option Bool :=
 ((mementolaw3_known).bind fun y => (if (!y) then (some false) else ((if (decide ((a0.length : Int) > 8)) then (some true) else (some (decide ((a1.length : Int) > 8)))).bind fun t27 => (if t27 then (some true) else ((pdisk_New 8).bind fun y2 => ((loopN (mementolaw3_DiskKeeps_L1) fuel (0, (List.replicate 8 ([] : (List Int))), (List.replicate 8 ([] : (List Int))))).bind fun (me7, me13) => (kont (loopN (mementolaw3_DiskKeeps_L2 a0) fuel (0, y2, me7)) fun (me, me7125) => ((pdisk_Disk_Flush me).bind fun (y212, y213) => (kont (loopN (mementolaw3_DiskKeeps_L3 a1) fuel (0, y213, me13)) fun (me220, me13221) => ((pdisk_Disk_Crash me220 a2 a3).bind fun y310 => (kont (loopN (mementolaw3_DiskKeeps_L4 a1 a2 me7125 me13221 y310) fuel 0) fun () => ((pdisk_Disk_Crash y310 a2 a3).bind fun y454 => ((pdisk_Disk_Dead y454).bind fun y461 => (some (!y461)))))))))))))))
end Go.Proofs.Ytpkcdabbijaklaa.Am
