/- From calls told by values to a law's row: what the arguments are. -/
import Derived.SizedLaws
import Derived.Test.YteclchefihcjkaaM15
import Derived.Deep.Slices
import Derived.Below
import Derived.Carry
namespace Go.Proofs.Yteclchefihcjkaa.Am
open Go Go.RowKit Go.Deep

/-- All that a world holds, as what never changes. -/
def g0 (W : World) : Gh := ⟨fun b o => W.cell? ⟨b, o, none⟩, fun _ => none, fun _ => ⟨0, 1, 0⟩⟩

theorem MR0 (W : World) : MR (g0 W) [] W := ⟨fun _ _ _ h => h, fun id e h => by simp at h, fun b id h => by cases h⟩

theorem ACalls.below {P : Program} {f : FuncId} {args : List AV} (h : ACalls P f args [] fun r _ => r = .sc (.bool true)) {W : World} {vals : Array Value} (hs : vals.size = args.length)
    (hv : ∀ (i : Nat) c, args[i]? = some c → VR (g0 W) 0 c (vals.getD i undef)) : Calls P f vals W fun e W' => e = .returned (.bool true) ∧ Below W.heap.size W W' :=
  (h.2 (g0 W) W vals (MR0 W) hs hv).mono fun _ _ ⟨v, he, r, H', g', hr, hvr, _, ev, _⟩ => by
    subst hr
    cases hvr
    exact ⟨he, ev.os, ev.tape, ev.output, ev.size, fun k hk => (ev.un k hk rfl).2⟩

/-- What the cells of a value of a type read as, where they read at all. -/
def Cd (P : Program) (t : TypeId) (z : Nat) (R : List PV → Prop) : Prop :=
  ∀ {T : Type} (enc : TypeId × Value → T) (W : World) (fuel : Nat) (cs : List Value) (x : DataW T × List MemPlace), DataW.trod enc P W 0 (fun _ => true) true fuel t cs = some x →
    (x.1.weights P t).all (· ≤ reachBytes) = true → cs.length = z ∧ ∃ ps, R ps ∧ ps.length = z ∧ ∀ (k : Nat) p, ps[k]? = some p → ∃ v, cs[k]? = some v ∧ PR (g0 W).ro p v

variable {P : Program}

theorem Cd.mono {t : TypeId} {z : Nat} {R R' : List PV → Prop} (hR : ∀ ps, R ps → R' ps) (h : Cd P t z R) : Cd P t z R' := fun enc W fuel cs x hx hw => by
  obtain ⟨h1, ps, h2, h3, h4⟩ := h enc W fuel cs x hx hw
  exact ⟨h1, ps, hR _ h2, h3, h4⟩

theorem Cd_int {t : TypeId} {k : IntKind} (ht : P.underlying t = some (.int k)) : Cd P t 1 fun ps => ∃ n, ps = [.sc (.int k n)] ∧ k.min ≤ n ∧ n ≤ k.max := fun enc W fuel cs x hx _ => by
  obtain ⟨m, rfl, _, hw⟩ := DataW.trod_int ht hx
  simp only [Lit.wf, Bool.and_eq_true, decide_eq_true_eq] at hw
  refine ⟨rfl, _, ⟨m, rfl, hw.1, hw.2⟩, rfl, fun k p hk => ?_⟩
  cases k with
  | zero => simp at hk; subst hk; exact ⟨_, rfl, .sc _ rfl⟩
  | succ k => simp at hk

theorem uniform_get {α : Type} {z : Nat} : ∀ {es : List (List α)}, (∀ e, e ∈ es → e.length = z) → ∀ {k : Nat} {p : α}, es.flatten[k]? = some p → ∃ (i j : Nat) (e : List α), es[i]? = some e ∧ e[j]? = some p ∧ k = i * z + j
  | [], _, k, p, h => by simp at h
  | e :: es, hz, k, p, h => by
    rw [List.flatten_cons] at h
    have he := hz e (List.mem_cons_self ..)
    rcases Nat.lt_or_ge k e.length with hk | hk
    · rw [List.getElem?_append_left hk] at h
      exact ⟨0, k, e, rfl, h, by omega⟩
    · rw [List.getElem?_append_right hk] at h
      obtain ⟨i, j, e', h1, h2, h3⟩ := uniform_get (fun e he => hz e (List.mem_cons_of_mem _ he)) h
      exact ⟨i + 1, j, e', h1, h2, by rw [Nat.add_mul]; omega⟩

theorem weights_mem_all {T : Type} {e : TypeId} : ∀ {l : List (DataW T)} {d : DataW T}, d ∈ l → ∀ n ∈ d.weights P e, n ∈ DataW.weightsAll P e l
  | d0 :: l, d, h, n, hn => by
    simp only [DataW.weightsAll, List.mem_append]
    rcases List.mem_cons.1 h with rfl | h
    · exact .inl hn
    · exact .inr (weights_mem_all h n hn)

theorem Cd_slice {t e : TypeId} {z : Nat} {R : List PV → Prop} (ht : P.underlying t = some (.slice e)) (hz : P.cellsOf e = z) (hpos : 0 < z) (h : Cd P e z R) :
    Cd P t 1 fun ps => ∃ es, ps = [.sl z es] ∧ (∀ x, x ∈ es → R x) ∧ es.length * P.bytesOf e ≤ 140737488351232 := fun enc W fuel cs x hx hw => by
  rcases open_slice ht hx with ⟨rfl, _⟩ | ⟨a, len, cap, m, n, D, Pl, rfl, _, hl, hm, hmm, hxe, hel⟩
  · exact ⟨rfl, _, ⟨[], rfl, (fun x h => nomatch h), by simp⟩, rfl, fun k p hk => by
      cases k with
      | zero => simp at hk; subst hk; exact ⟨_, rfl, .nil z⟩
      | succ k => simp at hk⟩
  · simp only [if_true] at hmm
    subst hmm
    rw [hz] at hel
    rw [hxe] at hw
    simp only [DataW.weights, ht, List.all_cons, Bool.and_eq_true, decide_eq_true_eq, List.length_map, List.length_range] at hw
    obtain ⟨hw1, hw2⟩ := hw
    have hwl : len * P.bytesOf e ≤ 140737488351232 := Nat.le_trans (Nat.mul_le_mul_right _ (Nat.le_add_right _ _)) hw1
    have hD : ∀ i, i < m → ((D i).weights P e).all (· ≤ reachBytes) = true := fun i hi => by
      rw [List.all_eq_true]
      intro k hk
      refine List.all_eq_true.1 hw2 k ?_
      rw [List.mem_append]
      rcases Nat.lt_or_ge i len with hil | hil
      · exact .inl (weights_mem_all (List.mem_map.2 ⟨i, List.mem_range.2 hil, rfl⟩) k hk)
      · exact .inr (weights_mem_all (List.mem_map.2 ⟨i - len, List.mem_range.2 (by omega), rfl⟩) k (by rw [show len + (i - len) = i by omega]; exact hk))
    have hq : ∀ i, i < m → ∃ ps, R ps ∧ ps.length = z ∧ ∀ (j : Nat) p, ps[j]? = some p → ∃ v, W.cell? ((a.add (i * z)).add j) = some v ∧ PR (g0 W).ro p v := fun i hi => by
      obtain ⟨cs', h1, h2⟩ := hel i hi
      obtain ⟨_, c2, c3⟩ := World.cells?_some h1
      obtain ⟨_, ps, p1, p2, p3⟩ := h enc W n cs' _ h2 (hD i hi)
      refine ⟨ps, p1, p2, fun j p hj => ?_⟩
      obtain ⟨v, v1, v2⟩ := p3 j p hj
      have hlt := lt_of_get hj
      exact ⟨v, (c3 j (by omega)).trans v1, v2⟩
    have hsp : m = 0 ∨ a.spot = none := by
      rcases Nat.eq_zero_or_pos m with h0 | h0
      · exact .inl h0
      · right
        obtain ⟨ps, _, p2, p3⟩ := hq 0 h0
        obtain ⟨v, hv, _⟩ := p3 0 ps[0] (List.getElem?_eq_getElem (by omega))
        simp only [Nat.zero_mul, Addr.add] at hv
        unfold World.cell? at hv
        cases hs : a.spot with
        | none => rfl
        | some s =>
          split at hv
          · simp [hs] at hv
          · cases hv
    obtain ⟨F, hF⟩ := choose_lt (α := List PV) hq
    let es := (List.range len).map F
    have hes : es.length = len := by simp [es]
    have hlen : ∀ e, e ∈ es → e.length = z := fun e he => by
      obtain ⟨i, hi, rfl⟩ := List.mem_map.1 he
      exact (hF i (by have := List.mem_range.1 hi; omega)).2.1
    have hcell : ∀ (k : Nat) p, es.flatten[k]? = some p → ∃ v, W.cell? ⟨a.block, a.off + k, none⟩ = some v ∧ PR (g0 W).ro p v := fun k p hk => by
      obtain ⟨i, j, e, h1, h2, rfl⟩ := uniform_get hlen hk
      have hi : i < len := by have := lt_of_get h1; omega
      simp only [es, List.getElem?_map, List.getElem?_range hi, Option.map_some, Option.some.injEq] at h1
      subst h1
      have hs := hsp.resolve_left (by omega)
      obtain ⟨v, v1, v2⟩ := (hF i (by omega)).2.2 j p h2
      rw [add_plain hs, add_plain rfl] at v1
      exact ⟨v, by rw [← Nat.add_assoc]; exact v1, v2⟩
    refine ⟨rfl, _, ⟨es, rfl, fun x hx => ?_, by rw [hes]; exact hwl⟩, rfl, fun k p hk => ?_⟩
    · obtain ⟨i, hi, rfl⟩ := List.mem_map.1 hx
      exact (hF i (by have := List.mem_range.1 hi; omega)).1
    · cases k with
      | zero =>
        simp at hk; subst hk
        refine ⟨_, rfl, ?_⟩
        have := PR.sl (ro := (g0 W).ro) z es a m (fun k => (W.cell? ⟨a.block, a.off + k, none⟩).getD undef) hsp (by omega) hlen (fun k p hk => by
          obtain ⟨v, v1, _⟩ := hcell k p hk
          simp only [g0, v1, Option.getD_some]) (fun k p hk => by
          obtain ⟨v, v1, v2⟩ := hcell k p hk
          simp only [v1, Option.getD_some]; exact v2)
        rw [hes] at this
        exact this
      | succ k => simp at hk

/-- An argument that is a slice. -/
theorem arg_sl {t : TypeId} {R : List PV → Prop} (hc : Cd P t 1 R) {T : Type} {enc : TypeId × Value → T} {W : World} {a : Option Addr} {len cap : Nat} {d : DataW T} {ps : List MemPlace}
    (h : DataW.Trod enc P W 0 (fun _ => true) true t (.slice a len cap) d ps) (hw : (d.weights P t).all (· ≤ reachBytes) = true) : ∃ p, R [p] ∧ VR (g0 W) 0 p.av (.slice a len cap) := by
  obtain ⟨fuel, hf⟩ := h
  obtain ⟨_, qs, h1, h2, h3⟩ := hc enc W fuel _ _ hf hw
  match qs, h2 with
  | [p], _ =>
    obtain ⟨v, v1, v2⟩ := h3 0 p rfl
    simp [Value.cells] at v1
    subst v1
    exact ⟨p, h1, .of_PR v2⟩

def ArgsR (g : Gh) (n : Nat) : List AV → List Value → Prop
  | [], [] => True
  | a :: r, v :: s => VR g n a v ∧ ArgsR g n r s
  | _, _ => False

theorem ArgsR.get {g : Gh} {n : Nat} : ∀ {as : List AV} {vs : List Value}, ArgsR g n as vs → vs.length = as.length ∧ ∀ (i : Nat) c, as[i]? = some c → VR g n c (vs.getD i undef)
  | [], [], _ => ⟨rfl, fun i c h => by simp at h⟩
  | a :: r, v :: s, h => by
    obtain ⟨h1, h2⟩ := ArgsR.get h.2
    refine ⟨by simp [h1], fun i c hc => ?_⟩
    cases i with
    | zero => simp at hc; subst hc; exact h.1
    | succ i => simp only [List.getElem?_cons_succ] at hc; simpa using h2 i c hc
  | [], _ :: _, h => h.elim
  | _ :: _, [], h => h.elim

theorem ACalls.law {f : FuncId} {args : List AV} {Q : Mem → Prop} (h : ACalls P f args [] fun r H' => r = .sc (.bool true) ∧ Q H') {W : World} {vals : List Value} (hv : ArgsR (g0 W) 0 args vals) :
    Calls P f vals.toArray W fun e W' => e = .returned (.bool true) ∧ Below W.heap.size W W' :=
  (h.mono fun _ _ q => q.1).below (by simpa using hv.get.1) fun i c hc => by simpa [List.getD_eq_getElem?_getD, Array.getD_eq_getD_getElem?] using hv.get.2 i c hc

end Go.Proofs.Yteclchefihcjkaa.Am
