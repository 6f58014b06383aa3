/- Walking: tests that guard, results, whole numbers within their bounds. -/
import Derived.Test.YteclchefihcjkaaM14
namespace Go.Proofs.Yteclchefihcjkaa.Am
open Go

section
variable {P : Program} {ops : Array Oper} {cs : List Nat} {rest : List Oper} {o : Oper} {fr : Frm} {H : Mem} {K : Frm → Mem → Prop} {hint : Hints}

theorem ARun_test {b : Bool} (hg : agd ops fr o = some true) (h : ∀ K' : AV → Mem → Prop, K' (.sc (.bool b)) H → aOp P (hintAt hint o.dst) o.op fr H K')
    (h1 : b = true → ARun P hint ops rest (fr.put o.dst (.sc (.bool true))) H K) (h2 : b = false → ARun P hint ops rest (fr.put o.dst (.sc (.bool false))) H K) : ARun P hint ops (o :: rest) fr H K := by
  refine ARun_cons hg fun K' hK => h K' (hK _ _ ?_)
  cases b
  · exact h2 rfl
  · exact h1 rfl
end

theorem wrap64 {n : Int} (h0 : -9223372036854775808 ≤ n) (h1 : n ≤ 9223372036854775807) : IntKind.i64.wrap n = n := by
  have e1 : (2 : Int) ^ IntKind.i64.bits = 18446744073709551616 := by decide
  have e2 : (2 : Int) ^ (IntKind.i64.bits - 1) = 9223372036854775808 := by decide
  unfold IntKind.wrap
  simp only [e1, e2, IntKind.signed, Bool.true_and]
  by_cases h : n % 18446744073709551616 ≥ 9223372036854775808
  · rw [if_pos (decide_eq_true h)]; omega
  · rw [if_neg (by simpa using h)]; omega
theorem wrapU {k : IntKind} (hk : k.signed = false) {n : Int} (h0 : 0 ≤ n) (h1 : n < 2 ^ k.bits) : k.wrap n = n := by
  unfold IntKind.wrap
  simp only [hk]
  exact Int.emod_eq_of_lt h0 h1
theorem wrap8 {n : Int} (h0 : 0 ≤ n) (h1 : n < 256) : IntKind.u8.wrap n = n := wrapU rfl h0 h1
theorem wrap16 {n : Int} (h0 : 0 ≤ n) (h1 : n < 65536) : IntKind.u16.wrap n = n := wrapU rfl h0 h1
theorem wrap32 {n : Int} (h0 : 0 ≤ n) (h1 : n < 4294967296) : IntKind.u32.wrap n = n := wrapU rfl h0 h1

theorem aNil_eql {P : Program} {t e : TypeId} {es : List (List PV)} {K : Bool → Prop} (ht : P.underlying t = some (.slice e)) (h : ∀ b : Bool, (b = true → es = []) → K b) : aNil P .eql t es K := by
  unfold aNil; rw [ht]; exact h
theorem aNil_neq {P : Program} {t e : TypeId} {es : List (List PV)} {K : Bool → Prop} (ht : P.underlying t = some (.slice e)) (h : ∀ b : Bool, (b = true → es = []) → K (!b)) : aNil P .neq t es K := by
  unfold aNil; rw [ht]; exact h

/-- What is told of a value, told again with less. -/
def AVLe (a a' : AV) : Prop := ∀ g n v, VR g n a v → VR g n a' v
theorem AVLe.refl (a : AV) : AVLe a a := fun _ _ _ h => h
theorem AVLe.nil (z : Nat) : AVLe (.sc (.slice none 0 0)) (.sl z [] .no) := fun _ _ _ h => by cases h; exact .nil z .no fun t e => by cases e
theorem AVLe.no (z : Nat) (es : List (List PV)) (k : Tk) : AVLe (.sl z es k) (.sl z es .no) := fun _ _ _ h => h.no_tok
def PLe (p p' : PV) : Prop := ∀ ro v, PR ro p v → PR ro p' v
theorem PLe.refl (p : PV) : PLe p p := fun _ _ h => h
theorem PLe.nil (z : Nat) : PLe (.sc (.slice none 0 0)) (.sl z []) := fun _ _ h => by cases h; exact .nil z
def PsLe : List PV → List PV → Prop
  | [], [] => True
  | p :: r, p' :: r' => PLe p p' ∧ PsLe r r'
  | _, _ => False
theorem PsLe.refl : ∀ l, PsLe l l
  | [] => trivial
  | p :: r => ⟨.refl p, PsLe.refl r⟩
theorem PsLe.get : ∀ {l l' : List PV}, PsLe l l' → l'.length = l.length ∧ ∀ (i : Nat) p', l'[i]? = some p' → ∃ p, l[i]? = some p ∧ PLe p p'
  | [], [], _ => ⟨rfl, fun i c h => by simp at h⟩
  | a :: r, a' :: r', h => by
    obtain ⟨h1, h2⟩ := PsLe.get h.2
    refine ⟨by simp [h1], fun i c hc => ?_⟩
    cases i with
    | zero => simp at hc; subst hc; exact ⟨a, rfl, h.1⟩
    | succ i => simp only [List.getElem?_cons_succ] at hc ⊢; exact h2 i c hc
  | [], _ :: _, h => h.elim
  | _ :: _, [], h => h.elim
theorem PsLe.append : ∀ {a a' b b' : List PV}, PsLe a a' → PsLe b b' → PsLe (a ++ b) (a' ++ b')
  | [], [], _, _, _, h => h
  | _ :: _, _ :: _, _, _, h, h' => ⟨h.1, PsLe.append h.2 h'⟩
  | [], _ :: _, _, _, h, _ => h.elim
  | _ :: _, [], _, _, h, _ => h.elim
def ELe : List (List PV) → List (List PV) → Prop
  | [], [] => True
  | p :: r, p' :: r' => PsLe p p' ∧ ELe r r'
  | _, _ => False
theorem ELe.spec : ∀ {l l' : List (List PV)}, ELe l l' → l'.length = l.length ∧ (∀ z, (∀ e, e ∈ l → e.length = z) → ∀ e, e ∈ l' → e.length = z) ∧ PsLe l.flatten l'.flatten
  | [], [], _ => ⟨rfl, (fun _ _ _ h => nomatch h), trivial⟩
  | a :: r, a' :: r', h => by
    obtain ⟨h1, h2, h3⟩ := ELe.spec h.2
    refine ⟨by simp [h1], fun z hz e he => ?_, PsLe.append h.1 h3⟩
    rcases List.mem_cons.1 he with rfl | he
    · rw [h.1.get.1]; exact hz _ (List.mem_cons_self ..)
    · exact h2 z (fun e he => hz e (List.mem_cons_of_mem _ he)) e he
  | [], _ :: _, h => h.elim
  | _ :: _, [], h => h.elim
theorem AVLe.sl {z : Nat} {es es' : List (List PV)} (k : Tk) (h : ELe es es') : AVLe (.sl z es k) (.sl z es' k) := fun g n v hv => by
  obtain ⟨h1, h2, h3⟩ := h.spec
  cases hv with
  | nil z k hk => cases es' with
    | nil => exact .nil z k hk
    | cons a l => cases h1
  | sl z es k a cap f hsp hcap hz hrow hk =>
    rw [← h1] at hcap hk ⊢
    refine .sl z es' k a cap f hsp hcap (h2 z hz) (fun i p' hp => ?_) hk
    obtain ⟨p, q1, q2⟩ := h3.get.2 i p' hp
    exact ⟨(hrow i p q1).1, q2 _ _ (hrow i p q1).2⟩

def ALe : List AV → List AV → Prop
  | [], [] => True
  | a :: r, a' :: r' => AVLe a a' ∧ ALe r r'
  | _, _ => False

theorem ALe.get : ∀ {l l' : List AV}, ALe l l' → l.length = l'.length ∧ ∀ (i : Nat) c', l'[i]? = some c' → ∃ c, l[i]? = some c ∧ AVLe c c'
  | [], [], _ => ⟨rfl, fun i c h => by simp at h⟩
  | a :: r, a' :: r', h => by
    obtain ⟨h1, h2⟩ := ALe.get h.2
    refine ⟨by simp [h1], fun i c hc => ?_⟩
    cases i with
    | zero => simp at hc; subst hc; exact ⟨a, rfl, h.1⟩
    | succ i => simp only [List.getElem?_cons_succ] at hc ⊢; exact h2 i c hc
  | [], _ :: _, h => h.elim
  | _ :: _, [], h => h.elim

theorem ACalls.le {P : Program} {f : FuncId} {args args' : List AV} {H : Mem} {R : AV → Mem → Prop} (h : ALe args args') (hc : ACalls P f args' H R) : ACalls P f args H R :=
  ⟨hc.1, fun g w vals hm hs hv => hc.2 g w vals hm (hs.trans h.get.1) fun i c' hi => by
    obtain ⟨c, h1, h2⟩ := h.get.2 i c' hi
    exact h2 _ _ _ (hv i c h1)⟩

/-- Slot by slot: as it was, or cells of the entry that never change from here on. -/
def FzL (fr : Frm) (id : Nat) (n : Nat) (pcs : List PV) : List (Nat × AV) → Prop
  | [] => True
  | (d, v) :: r => (fr d = v ∨ ∃ off len mc s, fr d = .hs id off len mc s ∧ off + len * s ≤ n ∧ v = .sl s (chunk s len ((pcs.drop off).take (len * s))) .no) ∧ FzL fr id n pcs r

theorem Reb.freeze {N n0 : Nat} {fr : Frm} {H : Mem} {id : Nat} {cs : List AV} {pcs : List PV} {l : List (Nat × AV)} (hid : H[id]? = some (.cells cs)) (hp : cs.mapM AV.pv = some pcs) (hl : FzL fr id cs.length pcs l) :
    Reb N n0 fr (Frm.of l) H (H.set id .dead) := fun g w tmps hn hf hm => by
  obtain ⟨hm1, hg1⟩ := hm.freeze hid
  refine ⟨_, ⟨hf.size, ?_⟩, hm1, ⟨⟨hg1.ro, fun i hi => hg1.mu i (by omega)⟩, fun b _ ho => ⟨ho, rfl⟩, Nat.le_refl _, rfl, rfl, rfl⟩, by simpa using hn⟩
  intro t
  have hlen : (H.set id Ent.dead).length = H.length := by simp
  rw [hlen]
  have hv := hf.vr t
  generalize tmps.getD t undef = u at hv
  induction l with
  | nil => exact .any _
  | cons p r ih =>
    obtain ⟨d, v⟩ := p
    obtain ⟨h1, h2⟩ := hl
    by_cases e : t = d
    · subst e
      simp only [Frm.of, if_true]
      rcases h1 with h1 | ⟨off, len, mc, s, h1, h3, rfl⟩
      · rw [← h1]; exact hv.mono hg1 (Nat.le_refl _)
      · rw [h1] at hv
        cases hv with
        | hs _ _ _ _ _ cap hidl hll hmc hcap => exact freeze_row hm hid hp h3 (Nat.le_trans hll hmc)
        | hn _ _ _ a hidl =>
          cases a with
          | none => exact .nil s .no fun t e => by cases e
          | some a => exact VR.sl s [] .no a 0 (fun _ => undef) (.inl rfl) (Nat.le_refl _) (fun e he => by cases he) (fun k p hk => by simp at hk) trivial
    · simp only [Frm.of, if_neg e]
      exact ih h2

theorem chunk_one {α β : Type} (f : α → β) (l : List α) : chunk 1 l.length (l.map f) = l.map fun x => [f x] := by
  induction l with
  | nil => rfl
  | cons x l ih => simp only [List.length_cons, chunk, List.map_cons, List.take_succ_cons, List.take_zero, List.drop_succ_cons, List.drop_zero]; rw [ih]

def pvB (b : UInt8) : PV := .sc (.int .u8 b.toNat)
def avB (b : UInt8) : AV := .sc (.int .u8 b.toNat)
theorem flat_avB (l : List UInt8) : (l.map encB).flatten.map PV.av = l.map avB := by
  induction l with
  | nil => rfl
  | cons x l ih => simp only [List.map_cons, List.flatten_cons, List.map_append, ih]; rfl
theorem mapM_avB (l : List UInt8) : (l.map avB).mapM AV.pv = some (l.map pvB) := by
  induction l with
  | nil => rfl
  | cons x l ih => simp only [List.map_cons, List.mapM_cons, ih]; rfl
theorem chunk_pvB (l : List UInt8) : chunk 1 l.length (((l.map pvB).drop 0).take (l.length * 1)) = l.map encB := by
  rw [List.drop_zero, Nat.mul_one, List.take_of_length_le (by simp), chunk_one]; rfl
theorem set_avB (l : List UInt8) (i : Nat) (y : UInt8) : (l.map avB).set i (.sc (.int .u8 (y.toNat : Nat))) = (l.set i y).map avB := (List.map_set (f := avB)).symm

/-- Bytes of one's own, as they are from here on. -/
theorem Reb.freezeB {N n0 : Nat} {fr : Frm} {H : Mem} {id : Nat} {bs : List UInt8} {l : List (Nat × AV)} (hid : H[id]? = some (.cells (bs.map avB))) (hl : FzL fr id bs.length (bs.map pvB) l) :
    Reb N n0 fr (Frm.of l) H (H.set id .dead) := .freeze hid (mapM_avB bs) (by simpa using hl)

theorem slot_hsB {fr : Frm} {d id mc : Nat} {bs : List UInt8} (h : fr d = .hs id 0 bs.length mc 1) :
    ∃ off len mc s, fr d = .hs id off len mc s ∧ off + len * s ≤ bs.length ∧ (.sl 1 (bs.map encB) .no : AV) = .sl s (chunk s len (((bs.map pvB).drop off).take (len * s))) .no :=
  ⟨0, bs.length, mc, 1, h, by omega, by rw [chunk_pvB]⟩

theorem xor8 (a x : UInt8) : Go.bits .xor .u8 (a.toNat : Int) (x.toNat : Int) = ((a ^^^ x).toNat : Int) := by
  have ha := a.toNat_lt
  have hx := x.toNat_lt
  have h1 : (BitVec.ofInt 8 (a.toNat : Int)).toNat = a.toNat := by
    rw [BitVec.ofInt_natCast, BitVec.toNat_ofNat]; exact Nat.mod_eq_of_lt (by omega)
  have h2 : (BitVec.ofInt 8 (x.toNat : Int)).toNat = x.toNat := by
    rw [BitVec.ofInt_natCast, BitVec.toNat_ofNat]; exact Nat.mod_eq_of_lt (by omega)
  show IntKind.u8.wrap ((BitVec.ofInt 8 (a.toNat : Int) ^^^ BitVec.ofInt 8 (x.toNat : Int)).toNat : Int) = _
  rw [BitVec.toNat_xor, h1, h2, UInt8.toNat_xor]
  have := Nat.xor_lt_two_pow (n := 8) ha hx
  exact wrap8 (by omega) (by omega)

theorem flat_snoc {α : Type} (ls : List (List α)) (i : Nat) (h : i < ls.length) : (ls.take (i + 1)).flatten = (ls.take i).flatten ++ ls[i] := by
  rw [List.take_succ_eq_append_getElem h, List.flatten_append]; simp
theorem flat_le {α : Type} {m : Nat} : ∀ {ls : List (List α)}, (∀ x, x ∈ ls → x.length ≤ m) → ls.flatten.length ≤ m * ls.length
  | [], _ => by simp
  | x :: ls, h => by
    have h1 := h x (List.mem_cons_self ..)
    have h2 := flat_le (ls := ls) fun y hy => h y (List.mem_cons_of_mem _ hy)
    simp only [List.flatten_cons, List.length_append, List.length_cons, Nat.mul_add]
    omega
theorem take_snoc_all {α : Type} {p : α → Prop} {ls : List α} {i : Nat} (h : i < ls.length) (ha : ∀ x, x ∈ ls.take i → p x) (hi : p ls[i]) : ∀ x, x ∈ ls.take (i + 1) → p x := fun x hx => by
  rw [List.take_succ_eq_append_getElem h] at hx
  rcases List.mem_append.1 hx with hx | hx
  · exact ha x hx
  · rw [List.mem_singleton.1 hx]; exact hi
theorem snoc_rows (ls : List (List UInt8)) (b : List UInt8) : (ls.map fun l => [PV.sl 1 (l.map encB)]) ++ [[PV.sl 1 (b.map encB)]] = (ls ++ [b]).map fun l => [PV.sl 1 (l.map encB)] := by rw [List.map_append]; rfl

end Go.Proofs.Yteclchefihcjkaa.Am
