/- Walking: tests that guard, results, whole numbers within their bounds. -/
import Derived.Test.YteclchefihcjkaaM14
namespace Go.Proofs.Yteclchefihcjkaa.Am
open Go

section
variable {P : Program} {ops : Array Oper} {cs : List Nat} {rest : List Oper} {o : Oper} {fr : Frm} {H : Mem} {K : Frm → Mem → Prop} {hint : Hints}

end

theorem wrap64 {n : Int} (h0 : -9223372036854775808 ≤ n) (h1 : n ≤ 9223372036854775807) : IntKind.i64.wrap n = n := by
  have e1 : (2 : Int) ^ IntKind.i64.bits = 18446744073709551616 := by decide
  have e2 : (2 : Int) ^ (IntKind.i64.bits - 1) = 9223372036854775808 := by decide
  unfold IntKind.wrap
  simp only [e1, e2, IntKind.signed, Bool.true_and]
  by_cases h : n % 18446744073709551616 ≥ 9223372036854775808
  · rw [if_pos (decide_eq_true h)]; omega
  · rw [if_neg (by simpa using h)]; omega
theorem wrapU {k : IntKind} (hk : k.signed = false) {n : Int} (h0 : 0 ≤ n) (h1 : n < 2 ^ k.bits) : k.wrap n = n := by
  unfold IntKind.wrap
  simp only [hk]
  exact Int.emod_eq_of_lt h0 h1
/-- What is told of a value, told again with less. -/
def AVLe (a a' : AV) : Prop := ∀ g n v, VR g n a v → VR g n a' v
theorem AVLe.refl (a : AV) : AVLe a a := fun _ _ _ h => h
theorem AVLe.nil (z : Nat) : AVLe (.sc (.slice none 0 0)) (.sl z [] .no) := fun _ _ _ h => by cases h; exact .nil z .no fun t e => by cases e
theorem AVLe.no (z : Nat) (es : List (List PV)) (k : Tk) : AVLe (.sl z es k) (.sl z es .no) := fun _ _ _ h => h.no_tok
def PLe (p p' : PV) : Prop := ∀ ro v, PR ro p v → PR ro p' v
theorem PLe.refl (p : PV) : PLe p p := fun _ _ h => h
theorem PLe.nil (z : Nat) : PLe (.sc (.slice none 0 0)) (.sl z []) := fun _ _ h => by cases h; exact .nil z
def PsLe : List PV → List PV → Prop
  | [], [] => True
  | p :: r, p' :: r' => PLe p p' ∧ PsLe r r'
  | _, _ => False
theorem PsLe.refl : ∀ l, PsLe l l
  | [] => trivial
  | p :: r => ⟨.refl p, PsLe.refl r⟩
theorem PsLe.get : ∀ {l l' : List PV}, PsLe l l' → l'.length = l.length ∧ ∀ (i : Nat) p', l'[i]? = some p' → ∃ p, l[i]? = some p ∧ PLe p p'
  | [], [], _ => ⟨rfl, fun i c h => by simp at h⟩
  | a :: r, a' :: r', h => by
    obtain ⟨h1, h2⟩ := PsLe.get h.2
    refine ⟨by simp [h1], fun i c hc => ?_⟩
    cases i with
    | zero => simp at hc; subst hc; exact ⟨a, rfl, h.1⟩
    | succ i => simp only [List.getElem?_cons_succ] at hc ⊢; exact h2 i c hc
  | [], _ :: _, h => h.elim
  | _ :: _, [], h => h.elim
theorem PsLe.append : ∀ {a a' b b' : List PV}, PsLe a a' → PsLe b b' → PsLe (a ++ b) (a' ++ b')
  | [], [], _, _, _, h => h
  | _ :: _, _ :: _, _, _, h, h' => ⟨h.1, PsLe.append h.2 h'⟩
  | [], _ :: _, _, _, h, _ => h.elim
  | _ :: _, [], _, _, h, _ => h.elim
def ELe : List (List PV) → List (List PV) → Prop
  | [], [] => True
  | p :: r, p' :: r' => PsLe p p' ∧ ELe r r'
  | _, _ => False
theorem ELe.spec : ∀ {l l' : List (List PV)}, ELe l l' → l'.length = l.length ∧ (∀ z, (∀ e, e ∈ l → e.length = z) → ∀ e, e ∈ l' → e.length = z) ∧ PsLe l.flatten l'.flatten
  | [], [], _ => ⟨rfl, (fun _ _ _ h => nomatch h), trivial⟩
  | a :: r, a' :: r', h => by
    obtain ⟨h1, h2, h3⟩ := ELe.spec h.2
    refine ⟨by simp [h1], fun z hz e he => ?_, PsLe.append h.1 h3⟩
    rcases List.mem_cons.1 he with rfl | he
    · rw [h.1.get.1]; exact hz _ (List.mem_cons_self ..)
    · exact h2 z (fun e he => hz e (List.mem_cons_of_mem _ he)) e he
  | [], _ :: _, h => h.elim
  | _ :: _, [], h => h.elim
theorem AVLe.sl {z : Nat} {es es' : List (List PV)} (k : Tk) (h : ELe es es') : AVLe (.sl z es k) (.sl z es' k) := fun g n v hv => by
  obtain ⟨h1, h2, h3⟩ := h.spec
  cases hv with
  | nil z k hk => cases es' with
    | nil => exact .nil z k hk
    | cons a l => cases h1
  | sl z es k a cap f hsp hcap hz hrow hk =>
    rw [← h1] at hcap hk ⊢
    refine .sl z es' k a cap f hsp hcap (h2 z hz) (fun i p' hp => ?_) hk
    obtain ⟨p, q1, q2⟩ := h3.get.2 i p' hp
    exact ⟨(hrow i p q1).1, q2 _ _ (hrow i p q1).2⟩

def ALe : List AV → List AV → Prop
  | [], [] => True
  | a :: r, a' :: r' => AVLe a a' ∧ ALe r r'
  | _, _ => False

theorem ALe.get : ∀ {l l' : List AV}, ALe l l' → l.length = l'.length ∧ ∀ (i : Nat) c', l'[i]? = some c' → ∃ c, l[i]? = some c ∧ AVLe c c'
  | [], [], _ => ⟨rfl, fun i c h => by simp at h⟩
  | a :: r, a' :: r', h => by
    obtain ⟨h1, h2⟩ := ALe.get h.2
    refine ⟨by simp [h1], fun i c hc => ?_⟩
    cases i with
    | zero => simp at hc; subst hc; exact ⟨a, rfl, h.1⟩
    | succ i => simp only [List.getElem?_cons_succ] at hc ⊢; exact h2 i c hc
  | [], _ :: _, h => h.elim
  | _ :: _, [], h => h.elim

theorem ACalls.le {P : Program} {f : FuncId} {args args' : List AV} {H : Mem} {R : AV → Mem → Prop} (h : ALe args args') (hc : ACalls P f args' H R) : ACalls P f args H R :=
  ⟨hc.1, fun g w vals hm hs hv => hc.2 g w vals hm (hs.trans h.get.1) fun i c' hi => by
    obtain ⟨c, h1, h2⟩ := h.get.2 i c' hi
    exact h2 _ _ _ (hv i c h1)⟩

/-- Slot by slot: as it was, or cells of the entry that never change from here on. -/
def FzL (fr : Frm) (id : Nat) (n : Nat) (pcs : List PV) : List (Nat × AV) → Prop
  | [] => True
  | (d, v) :: r => (fr d = v ∨ ∃ off len mc s, fr d = .hs id off len mc s ∧ off + len * s ≤ n ∧ v = .sl s (chunk s len ((pcs.drop off).take (len * s))) .no) ∧ FzL fr id n pcs r

theorem Reb.freeze {N n0 : Nat} {fr : Frm} {H : Mem} {id : Nat} {cs : List AV} {pcs : List PV} {l : List (Nat × AV)} (hid : H[id]? = some (.cells cs)) (hp : cs.mapM AV.pv = some pcs) (hl : FzL fr id cs.length pcs l) :
    Reb N n0 fr (Frm.of l) H (H.set id .dead) := fun g w tmps hn hf hm => by
  obtain ⟨hm1, hg1⟩ := hm.freeze hid
  refine ⟨_, ⟨hf.size, ?_⟩, hm1, ⟨⟨hg1.ro, fun i hi => hg1.mu i (by omega)⟩, fun b _ ho => ⟨ho, rfl⟩, Nat.le_refl _, rfl, rfl, rfl⟩, by simpa using hn⟩
  intro t
  have hlen : (H.set id Ent.dead).length = H.length := by simp
  rw [hlen]
  have hv := hf.vr t
  generalize tmps.getD t undef = u at hv
  induction l with
  | nil => exact .any _
  | cons p r ih =>
    obtain ⟨d, v⟩ := p
    obtain ⟨h1, h2⟩ := hl
    by_cases e : t = d
    · subst e
      simp only [Frm.of, if_true]
      rcases h1 with h1 | ⟨off, len, mc, s, h1, h3, rfl⟩
      · rw [← h1]; exact hv.mono hg1 (Nat.le_refl _)
      · rw [h1] at hv
        cases hv with
        | hs _ _ _ _ _ cap hidl hll hmc hcap => exact freeze_row hm hid hp h3 (Nat.le_trans hll hmc)
        | hn _ _ _ a hidl =>
          cases a with
          | none => exact .nil s .no fun t e => by cases e
          | some a => exact VR.sl s [] .no a 0 (fun _ => undef) (.inl rfl) (Nat.le_refl _) (fun e he => by cases he) (fun k p hk => by simp at hk) trivial
    · simp only [Frm.of, if_neg e]
      exact ih h2

end Go.Proofs.Yteclchefihcjkaa.Am
