/- Regions that draw their order: the text's order tells the values, if a plain test of the region says so. -/
import Derived.Test.YteclchefihcjkaaM12
import Derived.Orders
namespace Go.Proofs.Yteclchefihcjkaa.Am
open Go

/-- What an operation rests on, straight and through others, as bits. -/
def oneClo (c : List Nat) (o : Oper) : Nat := o.after.toList.foldl (fun s e => if Region.binds .any e then s ||| 2 ^ e.on ||| c.getD e.on 0 else s) 0
def cloL : List Oper → List Nat → List Nat
  | [], acc => acc
  | o :: r, acc => cloL r (acc ++ [oneClo acc o])

def ordered (c : List Nat) (i j : Nat) : Bool := if j < i then (c.getD i 0).testBit j else (c.getD j 0).testBit i

/-- The test: 'cls' tells of each operation whether it lets memory be (0), looks at it (1), changes it (2) or only adds to it (3). -/
def okD (l : List Oper) (cls : List Nat) : Bool :=
  let c := cloL l []
  (List.range l.length).all fun i => match l[i]? with
    | none => false
    | some o =>
      (c.getD i 0 == oneClo c o) && (o.after.toList.all fun e => !Region.binds .any e || decide (e.on < i)) &&
      (List.range l.length).all fun j => j == i || match l[j]? with
        | none => false
        | some oj =>
          (match oj.dst with
          | some d => (!(o.looksAt l.toArray).contains d || ordered c i j) && o.dst != some d
          | none => true) &&
          (cls.getD i 0 == 0 || decide (cls.getD j 0 < 2) || (cls.getD i 0 == 1 && cls.getD j 0 == 3) || ordered c i j)

theorem testBit_foldl {c : List Nat} {j : Nat} : ∀ {l : List Edge} {s : Nat}, (l.foldl (fun s e => if Region.binds .any e then s ||| 2 ^ e.on ||| c.getD e.on 0 else s) s).testBit j = true →
    s.testBit j = true ∨ ∃ e ∈ l, Region.binds .any e = true ∧ (e.on = j ∨ (c.getD e.on 0).testBit j = true)
  | [], s, h => .inl h
  | e :: l, s, h => by
    rw [List.foldl_cons] at h
    rcases testBit_foldl h with h1 | ⟨e', he', hb, h2⟩
    · split at h1
      · rename_i hb
        rw [Nat.testBit_or, Nat.testBit_or, Bool.or_eq_true, Bool.or_eq_true] at h1
        rcases h1 with (h1 | h1) | h1
        · exact .inl h1
        · rw [Nat.testBit_two_pow] at h1
          exact .inr ⟨e, List.mem_cons_self .., hb, .inl (by simpa using h1)⟩
        · exact .inr ⟨e, List.mem_cons_self .., hb, .inr h1⟩
      · exact .inl h1
    · exact .inr ⟨e', List.mem_cons_of_mem _ he', hb, h2⟩

structure OkD (l : List Oper) (cls : List Nat) (B : Nat → Nat → Prop) : Prop where
  clo : ∀ (i : Nat) o, l[i]? = some o → ∀ j, B i j → ∃ e ∈ o.after, Region.binds .any e = true ∧ (e.on = j ∨ B e.on j)
  low : ∀ (i : Nat) o, l[i]? = some o → ∀ e ∈ o.after, Region.binds .any e = true → e.on < i
  looks : ∀ (i j : Nat) o oj, l[i]? = some o → l[j]? = some oj → j ≠ i → ∀ d, oj.dst = some d → d ∈ o.looksAt l.toArray → (j < i ∧ B i j) ∨ (i < j ∧ B j i)
  one : ∀ (i j : Nat) o oj, l[i]? = some o → l[j]? = some oj → j ≠ i → ∀ d, oj.dst = some d → o.dst ≠ some d
  loud : ∀ (i j : Nat) o oj, l[i]? = some o → l[j]? = some oj → j ≠ i → cls.getD i 0 ≠ 0 → 2 ≤ cls.getD j 0 → ¬ (cls.getD i 0 = 1 ∧ cls.getD j 0 = 3) → (j < i ∧ B i j) ∨ (i < j ∧ B j i)

theorem ordered_spec {c : List Nat} {i j : Nat} (hne : j ≠ i) (h : ordered c i j = true) : (j < i ∧ (c.getD i 0).testBit j = true) ∨ (i < j ∧ (c.getD j 0).testBit i = true) := by
  unfold ordered at h
  split at h
  · exact .inl ⟨by assumption, h⟩
  · exact .inr ⟨by omega, h⟩

theorem okD_spec {l : List Oper} {cls : List Nat} (h : okD l cls = true) : OkD l cls fun i j => ((cloL l []).getD i 0).testBit j = true := by
  have h0 : ∀ (i : Nat) o, l[i]? = some o → ((cloL l []).getD i 0 = oneClo (cloL l []) o) ∧ (∀ e ∈ o.after, Region.binds .any e = true → e.on < i) ∧
      ∀ (j : Nat) oj, l[j]? = some oj → j ≠ i → (∀ d, oj.dst = some d → (d ∈ o.looksAt l.toArray → ordered (cloL l []) i j = true) ∧ o.dst ≠ some d) ∧
        (cls.getD i 0 ≠ 0 → 2 ≤ cls.getD j 0 → ¬ (cls.getD i 0 = 1 ∧ cls.getD j 0 = 3) → ordered (cloL l []) i j = true) := by
    intro i o hi
    have hlt : i < l.length := by
      rcases Nat.lt_or_ge i l.length with hh | hh
      · exact hh
      · rw [List.getElem?_eq_none hh] at hi; cases hi
    unfold okD at h
    have h1 := List.all_eq_true.1 h i (List.mem_range.2 hlt)
    simp only [hi, Bool.and_eq_true] at h1
    obtain ⟨⟨h1, h2⟩, h3⟩ := h1
    refine ⟨by simpa using h1, fun e he hb => ?_, fun j oj hj hne => ?_⟩
    · have := List.all_eq_true.1 h2 e (Array.mem_toList_iff.2 he)
      simpa [hb] using this
    · have hjl : j < l.length := by
        rcases Nat.lt_or_ge j l.length with hh | hh
        · exact hh
        · rw [List.getElem?_eq_none hh] at hj; cases hj
      have h4 := List.all_eq_true.1 h3 j (List.mem_range.2 hjl)
      simp only [hj, Bool.or_eq_true, beq_iff_eq, hne, false_or, Bool.and_eq_true] at h4
      obtain ⟨h5, h6⟩ := h4
      refine ⟨fun d hd => ?_, fun hc hl hx => ?_⟩
      · rw [hd] at h5
        simp only [Bool.and_eq_true, Bool.or_eq_true, Bool.not_eq_true', bne_iff_ne] at h5
        refine ⟨fun hm => ?_, h5.2⟩
        rcases h5.1 with hc | hc
        · rw [List.contains_eq_mem] at hc; simp [hm] at hc
        · exact hc
      · rcases h6 with ((h6 | h6) | h6) | h6
        · exact absurd h6 hc
        · have h7 : cls.getD j 0 < 2 := by simpa using h6
          omega
        · exact absurd (by simpa using h6) hx
        · exact h6
  refine ⟨fun i o hi j hb => ?_, fun i o hi => (h0 i o hi).2.1, fun i j o oj hi hj hne d hd hm => ordered_spec hne (((h0 i o hi).2.2 j oj hj hne).1 d hd |>.1 hm),
    fun i j o oj hi hj hne d hd => (((h0 i o hi).2.2 j oj hj hne).1 d hd).2, fun i j o oj hi hj hne hc hl hx => ordered_spec hne (((h0 i o hi).2.2 j oj hj hne).2 hc hl hx)⟩
  rw [(h0 i o hi).1, oneClo] at hb
  rcases testBit_foldl hb with hz | ⟨e, he, hb, h2⟩
  · simp at hz
  · exact ⟨e, Array.mem_toList_iff.1 he, hb, h2⟩

theorem OpS.congr {P : Program} {o : Oper} {fr fr' : Frm} {H : Mem} {K : AV → Mem → Prop} (hf : ∀ t, Operand.tmp t ∈ o.op.operands → fr' t = fr t) (h : OpS P o fr H K) : OpS P o fr' H K := fun g w ev h1 h2 =>
  h g w ev (fun x hx => by
    have := h1 x hx
    cases x with
    | tmp t => simp only [aev, hf t hx] at this; exact this
    | _ => exact this) h2

/-- One step of the text's order, its value and its memory told; B: what memory began with when it was changed last. -/
def DStep (P : Program) (J : Mem → Prop) (ops : Array Oper) (c : Nat) (o : Oper) (fr : Frm) (B H : Mem) (r : AV) (H' : Mem) : Prop :=
  (c < 2 → H' = H) ∧ (c ≠ 2 → H <+: H') ∧ (H' = H ∨ J H') ∧
  ((agd ops fr o = some true ∧ ((c = 0 ∧ ∀ H0, J H0 → OpS P o fr H0 fun r1 H1 => r1 = r ∧ H1 = H0) ∨ (c = 1 ∧ ∀ H0, B <+: H0 → OpS P o fr H0 fun r1 H1 => r1 = r ∧ H1 = H0) ∨ (2 ≤ c ∧ OpS P o fr H fun r1 H1 => r1 = r ∧ H1 = H'))) ∨
   (agd ops fr o = some false ∧ r = .sc undef ∧ H' = H))

def DRun (P : Program) (J : Mem → Prop) (ops : Array Oper) : List Nat → List Oper → Frm → Mem → Mem → (Frm → Mem → Prop) → Prop
  | _, [], fr, _, H, K => K fr H
  | cs, o :: rest, fr, B, H, K => ∃ r H', DStep P J ops (cs.headD 0) o fr B H r H' ∧ DRun P J ops cs.tail rest (fr.put o.dst r) (if cs.headD 0 = 2 then H' else B) H' K

/-- The text's order as rows of frames, values and memories. -/
structure Trace (P : Program) (J : Mem → Prop) (ops : Array Oper) (l : List Oper) (cls : List Nat) (F : Nat → Frm) (R : Nat → AV) (M Bs : Nat → Mem) : Prop where
  step : ∀ (i : Nat) o, l[i]? = some o → DStep P J ops (cls.getD i 0) o (F i) (Bs i) (M i) (R i) (M (i + 1)) ∧ F (i + 1) = (F i).put o.dst (R i) ∧ Bs (i + 1) = if cls.getD i 0 = 2 then M (i + 1) else Bs i

theorem Trace.of_run {P : Program} {J : Mem → Prop} {ops : Array Oper} {K : Frm → Mem → Prop} : ∀ {l : List Oper} {cls : List Nat} {fr : Frm} {B H : Mem}, DRun P J ops cls l fr B H K →
    ∃ F R M Bs, Trace P J ops l cls F R M Bs ∧ F 0 = fr ∧ M 0 = H ∧ Bs 0 = B ∧ K (F l.length) (M l.length)
  | [], cls, fr, B, H, h => ⟨fun _ => fr, fun _ => .any, fun _ => H, fun _ => B, ⟨fun i o ho => by simp at ho⟩, rfl, rfl, rfl, h⟩
  | o :: rest, cls, fr, B, H, ⟨r, H', hs, hr⟩ => by
    obtain ⟨F, R, M, Bs, ht, h1, h2, h4, h3⟩ := Trace.of_run hr
    refine ⟨fun i => if i = 0 then fr else F (i - 1), fun i => if i = 0 then r else R (i - 1), fun i => if i = 0 then H else M (i - 1), fun i => if i = 0 then B else Bs (i - 1), ⟨fun i o' ho => ?_⟩, by simp, by simp, by simp, by simpa using h3⟩
    cases i with
    | zero =>
      simp at ho
      subst ho
      simp only [if_true, Nat.zero_add, Nat.one_ne_zero, if_false, Nat.sub_self, h1, h2, h4]
      cases cls with
      | nil => exact ⟨by simpa using hs, trivial, by simp⟩
      | cons c cs => exact ⟨by simpa using hs, trivial, by simp⟩
    | succ i =>
      simp only [List.getElem?_cons_succ] at ho
      have := ht.step i o' ho
      simp only [Nat.succ_ne_zero, if_false, Nat.add_sub_cancel]
      refine ⟨?_, this.2.1, ?_⟩
      · cases cls with
        | nil => simpa using this.1
        | cons c cs => simpa using this.1
      · cases cls with
        | nil => simpa using this.2.2
        | cons c cs => simpa using this.2.2

section
variable {P : Program} {J : Mem → Prop} {l : List Oper} {cls : List Nat} {F : Nat → Frm} {R : Nat → AV} {M Bs : Nat → Mem} {B : Nat → Nat → Prop}

theorem get_lt {i : Nat} {o : Oper} (h : l[i]? = some o) : i < l.length := by
  rcases Nat.lt_or_ge i l.length with hh | hh
  · exact hh
  · rw [List.getElem?_eq_none hh] at h; cases h

theorem get_of_lt {i : Nat} (h : i < l.length) : ∃ o, l[i]? = some o := ⟨l[i], List.getElem?_eq_getElem h⟩

/-- A slot that no operation before i writes. -/
theorem Trace.kept (ht : Trace P J l.toArray l cls F R M Bs) {t : Nat} : ∀ {i : Nat}, i ≤ l.length → (∀ j oj, j < i → l[j]? = some oj → oj.dst ≠ some t) → F i t = F 0 t
  | 0, _, _ => rfl
  | i + 1, hi, h => by
    obtain ⟨o, ho⟩ := get_of_lt (l := l) (i := i) (by omega)
    rw [(ht.step i o ho).2.1]
    have h1 := h i o (by omega) ho
    have : ((F i).put o.dst (R i)) t = F i t := by
      cases hd : o.dst with
      | none => rfl
      | some d => simp only [Frm.put, Frm.set]; rw [if_neg (fun e => h1 (by rw [hd, e]))]
    rw [this]
    exact ht.kept (by omega) fun j oj hj => h j oj (by omega)

/-- The slot that operation j writes, after it. -/
theorem Trace.got (ht : Trace P J l.toArray l cls F R M Bs) (hok : OkD l cls B) {t j : Nat} {oj : Oper} (hj : l[j]? = some oj) (hd : oj.dst = some t) : ∀ {i : Nat}, i ≤ l.length → j < i → F i t = R j
  | 0, _, h => absurd h (Nat.not_lt_zero _)
  | i + 1, hi, h => by
    obtain ⟨o, ho⟩ := get_of_lt (l := l) (i := i) (by omega)
    rw [(ht.step i o ho).2.1]
    by_cases e : i = j
    · subst e
      rw [hj] at ho; cases ho
      simp [hd, Frm.put, Frm.set]
    · have h1 := hok.one i j o oj ho hj (fun x => e x.symm) t hd
      have : ((F i).put o.dst (R i)) t = F i t := by
        cases hd : o.dst with
        | none => rfl
        | some d => simp only [Frm.put, Frm.set]; rw [if_neg (fun e => h1 (by rw [hd, e]))]
      rw [this]
      exact ht.got hok hj hd (by omega) (by omega)

theorem Trace.still (ht : Trace P J l.toArray l cls F R M Bs) {a : Nat} : ∀ {b : Nat}, a ≤ b → b ≤ l.length → (∀ j, a ≤ j → j < b → cls.getD j 0 < 2) → M b = M a
  | 0, hab, _, _ => by
    cases Nat.le_zero.1 hab
    rfl
  | b + 1, hab, hb, h => by
    rcases Nat.lt_or_ge a (b + 1) with hl | hl
    · obtain ⟨o, ho⟩ := get_of_lt (l := l) (i := b) (by omega)
      rw [(ht.step b o ho).1.1 (h b (by omega) (by omega))]
      exact ht.still (by omega) (by omega) fun j h1 h2 => h j h1 (by omega)
    · obtain rfl : a = b + 1 := by omega
      rfl

theorem Trace.inv (ht : Trace P J l.toArray l cls F R M Bs) (h0 : J (M 0)) : ∀ {b : Nat}, b ≤ l.length → J (M b)
  | 0, _ => h0
  | b + 1, hb => by
    obtain ⟨o, ho⟩ := get_of_lt (l := l) (i := b) (by omega)
    rcases (ht.step b o ho).1.2.2.1 with h | h
    · rw [h]; exact ht.inv h0 (by omega)
    · exact h

theorem Trace.grow (ht : Trace P J l.toArray l cls F R M Bs) {a : Nat} : ∀ {b : Nat}, a ≤ b → b ≤ l.length → (∀ j, a ≤ j → j < b → cls.getD j 0 ≠ 2) → M a <+: M b
  | 0, hab, _, _ => by
    cases Nat.le_zero.1 hab
    exact List.prefix_refl _
  | b + 1, hab, hb, h => by
    rcases Nat.lt_or_ge a (b + 1) with hl | hl
    · obtain ⟨o, ho⟩ := get_of_lt (l := l) (i := b) (by omega)
      exact (ht.grow (by omega) (by omega) fun j h1 h2 => h j h1 (by omega)).trans ((ht.step b o ho).1.2.1 (h b (by omega) (by omega)))
    · obtain rfl : a = b + 1 := by omega
      exact List.prefix_refl _

theorem Trace.last (ht : Trace P J l.toArray l cls F R M Bs) (h0 : Bs 0 = M 0) : ∀ {i : Nat}, i ≤ l.length → ∃ b, b ≤ i ∧ Bs i = M b ∧ (∀ j, b ≤ j → j < i → cls.getD j 0 ≠ 2) ∧ (b = 0 ∨ cls.getD (b - 1) 0 = 2)
  | 0, _ => ⟨0, Nat.le_refl _, h0, fun j _ h => absurd h (Nat.not_lt_zero _), .inl rfl⟩
  | i + 1, hi => by
    obtain ⟨o, ho⟩ := get_of_lt (l := l) (i := i) (by omega)
    have h1 := (ht.step i o ho).2.2
    by_cases hc : cls.getD i 0 = 2
    · rw [if_pos hc] at h1
      exact ⟨i + 1, Nat.le_refl _, h1, fun j a b => by omega, .inr (by simpa using hc)⟩
    · rw [if_neg hc] at h1
      obtain ⟨b, q1, q2, q3, q4⟩ := ht.last h0 (i := i) (by omega)
      refine ⟨b, by omega, h1.trans q2, fun j a1 a2 => ?_, q4⟩
      by_cases e : j = i
      · subst e; exact hc
      · exact q3 j a1 (by omega)

/-- What holds when the operations of D are done. -/
structure Done (l : List Oper) (cls : List Nat) (F : Nat → Frm) (R : Nat → AV) (M : Nat → Mem) (D : Nat → Prop) (fr : Frm) (H : Mem) : Prop where
  down : ∀ i o, l[i]? = some o → D i → ∀ e ∈ o.after, Region.binds .any e = true → D e.on
  put : ∀ i o t, l[i]? = some o → D i → o.dst = some t → fr t = R i
  keep : ∀ t, (∀ i o, l[i]? = some o → D i → o.dst ≠ some t) → fr t = F 0 t
  mem : ∃ m, m ≤ l.length ∧ (∀ j, j < l.length → 2 ≤ cls.getD j 0 → (D j ↔ j < m)) ∧ H = M m

theorem Done.clo {D : Nat → Prop} (hok : OkD l cls B) (hdn : ∀ i o, l[i]? = some o → D i → ∀ e ∈ o.after, Region.binds .any e = true → D e.on) : ∀ (n i : Nat) o, i < n → l[i]? = some o →
    (∀ e ∈ o.after, Region.binds .any e = true → D e.on) → ∀ j, B i j → D j
  | 0, i, o, h, _, _, _, _ => absurd h (Nat.not_lt_zero _)
  | n + 1, i, o, h, hi, hp, j, hb => by
    obtain ⟨e, he, hbi, h2⟩ := hok.clo i o hi j hb
    rcases h2 with h2 | h2
    · rw [← h2]; exact hp e he hbi
    · have hlt := hok.low i o hi e he hbi
      obtain ⟨o2, ho2⟩ := get_of_lt (l := l) (i := e.on) (Nat.lt_trans hlt (get_lt hi))
      exact Done.clo hok hdn n e.on o2 (by omega) ho2 (hdn e.on o2 ho2 (hp e he hbi)) j h2

theorem Done.looks (ht : Trace P J l.toArray l cls F R M Bs) (hok : OkD l cls B) {D : Nat → Prop} {fr : Frm} {H : Mem} (hD : Done l cls F R M D fr H) {i : Nat} {o : Oper} (hi : l[i]? = some o) (hn : ¬ D i)
    (hp : ∀ e ∈ o.after, Region.binds .any e = true → D e.on) {t : Nat} (htl : t ∈ o.looksAt l.toArray) : fr t = F i t := by
  have hlt := get_lt hi
  by_cases hw : ∃ j oj, l[j]? = some oj ∧ j ≠ i ∧ oj.dst = some t
  · obtain ⟨j, oj, hj, hne, hd⟩ := hw
    rcases hok.looks i j o oj hi hj hne t hd htl with ⟨hji, hb⟩ | ⟨hij, hb⟩
    · have hDj := Done.clo hok hD.down (i + 1) i o (by omega) hi hp j hb
      rw [hD.put j oj t hj hDj hd, ht.got hok hj hd (by omega) hji]
    · have hDj : ¬ D j := fun hDj => hn (Done.clo hok hD.down (j + 1) j oj (by omega) hj (hD.down j oj hj hDj) i hb)
      rw [hD.keep t fun k ok hk hDk hdk => ?_, ht.kept (i := i) (by omega) fun k ok hkl hk hdk => ?_]
      · have : k = j := Classical.byContradiction fun e => hok.one k j ok oj hk hj (fun x => e x.symm) t hd hdk
        omega
      · have : k = j := Classical.byContradiction fun e => hok.one k j ok oj hk hj (fun x => e x.symm) t hd hdk
        subst this
        exact hDj hDk
  · have hw' : ∀ j oj, l[j]? = some oj → j ≠ i → oj.dst ≠ some t := fun j oj hj hne hd => hw ⟨j, oj, hj, hne, hd⟩
    rw [hD.keep t fun k ok hk hDk => hw' k ok hk fun e => hn (e ▸ hDk), ht.kept (i := i) (by omega) fun k ok hkl hk => hw' k ok hk (by omega)]

theorem Done.mem' (ht : Trace P J l.toArray l cls F R M Bs) {D : Nat → Prop} {fr : Frm} {H : Mem} (hD : Done l cls F R M D fr H) (m : Nat) (hm : m ≤ l.length) (h : ∀ j, j < l.length → 2 ≤ cls.getD j 0 → (D j ↔ j < m)) : H = M m := by
  obtain ⟨m', hm', h', rfl⟩ := hD.mem
  rcases Nat.le_total m m' with hl | hl
  · refine ht.still hl hm' fun j h1 h2 => Nat.lt_of_not_le fun hc => ?_
    have := (h j (by omega) hc).1 ((h' j (by omega) hc).2 h2); omega
  · refine (ht.still hl hm fun j h1 h2 => Nat.lt_of_not_le fun hc => ?_).symm
    have := (h' j (by omega) hc).1 ((h j (by omega) hc).2 h2); omega

theorem Done.here (ht : Trace P J l.toArray l cls F R M Bs) (hok : OkD l cls B) {D : Nat → Prop} {fr : Frm} {H : Mem} (hD : Done l cls F R M D fr H) {i : Nat} {o : Oper} (hi : l[i]? = some o) (hn : ¬ D i)
    (hp : ∀ e ∈ o.after, Region.binds .any e = true → D e.on) (hc : 2 ≤ cls.getD i 0) : H = M i := by
  refine hD.mem' ht i (Nat.le_of_lt (get_lt hi)) fun j hj hl => ⟨fun hDj => ?_, fun hji => ?_⟩
  · obtain ⟨oj, hoj⟩ := get_of_lt hj
    by_cases e : j = i
    · subst e; exact absurd hDj hn
    · rcases hok.loud i j o oj hi hoj e (by omega) hl (by omega) with ⟨h1, _⟩ | ⟨_, hb⟩
      · exact h1
      · exact absurd (Done.clo hok hD.down (j + 1) j oj (by omega) hoj (hD.down j oj hoj hDj) i hb) hn
  · obtain ⟨oj, hoj⟩ := get_of_lt hj
    rcases hok.loud i j o oj hi hoj (by omega) (by omega) hl (by omega) with ⟨_, hb⟩ | ⟨h1, _⟩
    · exact Done.clo hok hD.down (i + 1) i o (by omega) hi hp j hb
    · omega

/-- Where one looks at memory, it begins as it did when it was changed last. -/
theorem Done.look (ht : Trace P J l.toArray l cls F R M Bs) (h0 : Bs 0 = M 0) (hok : OkD l cls B) {D : Nat → Prop} {fr : Frm} {H : Mem} (hD : Done l cls F R M D fr H) {i : Nat} {o : Oper} (hi : l[i]? = some o) (hn : ¬ D i)
    (hp : ∀ e ∈ o.after, Region.binds .any e = true → D e.on) (hc : cls.getD i 0 = 1) : Bs i <+: H := by
  have hil := get_lt hi
  obtain ⟨b, q1, q2, q3, q4⟩ := ht.last h0 (i := i) (by omega)
  obtain ⟨m, hm, h, rfl⟩ := hD.mem
  rw [q2]
  have hbm : b ≤ m := by
    rcases q4 with rfl | q4
    · omega
    · by_cases hb0 : b = 0
      · omega
      obtain ⟨oj, hoj⟩ := get_of_lt (l := l) (i := b - 1) (by omega)
      rcases hok.loud i (b - 1) o oj hi hoj (by omega) (by omega) (by omega) (by omega) with ⟨_, hb⟩ | ⟨h1, _⟩
      · have := (h (b - 1) (by omega) (by omega)).1 (Done.clo hok hD.down (i + 1) i o (by omega) hi hp (b - 1) hb)
        omega
      · omega
  refine ht.grow hbm hm fun j h1 h2 h3 => ?_
  rcases Nat.lt_or_ge j i with hji | hji
  · exact q3 j h1 hji h3
  · have hDj := (h j (by omega) (by omega)).2 h2
    obtain ⟨oj, hoj⟩ := get_of_lt (l := l) (i := j) (by omega)
    rcases hok.loud i j o oj hi hoj (fun e => by subst e; omega) (by omega) (by omega) (by omega) with ⟨h4, _⟩ | ⟨_, hb⟩
    · omega
    · exact hn (Done.clo hok hD.down (j + 1) j oj (by omega) hoj (hD.down j oj hoj hDj) i hb)

theorem Done.next (ht : Trace P J l.toArray l cls F R M Bs) (hok : OkD l cls B) {D : Nat → Prop} {fr : Frm} {H : Mem} (hD : Done l cls F R M D fr H) {i : Nat} {o : Oper} (hi : l[i]? = some o) (hn : ¬ D i)
    (hp : ∀ e ∈ o.after, Region.binds .any e = true → D e.on) : Done l cls F R M (fun j => j = i ∨ D j) (fr.put o.dst (R i)) (if 2 ≤ cls.getD i 0 then M (i + 1) else H) := by
  refine ⟨fun j oj hj hDj e he hb => ?_, fun j oj t hj hDj hd => ?_, fun t h => ?_, ?_⟩
  · rcases hDj with rfl | hDj
    · rw [hi] at hj; cases hj
      exact .inr (hp e he hb)
    · exact .inr (hD.down j oj hj hDj e he hb)
  · by_cases e : j = i
    · subst e
      rw [hi] at hj; cases hj
      simp [hd, Frm.put, Frm.set]
    · have h1 := hok.one i j o oj hi hj e t hd
      have : (fr.put o.dst (R i)) t = fr t := by
        cases hd : o.dst with
        | none => rfl
        | some d => simp only [Frm.put, Frm.set]; rw [if_neg (fun e => h1 (by rw [hd, e]))]
      rw [this]
      exact hD.put j oj t hj (hDj.resolve_left e) hd
  · have h1 := h i o hi (.inl rfl)
    have : (fr.put o.dst (R i)) t = fr t := by
      cases hd : o.dst with
      | none => rfl
      | some d => simp only [Frm.put, Frm.set]; rw [if_neg (fun e => h1 (by rw [hd, e]))]
    rw [this]
    exact hD.keep t fun j oj hj hDj => h j oj hj (.inr hDj)
  · by_cases hl : 2 ≤ cls.getD i 0
    · rw [if_pos hl]
      refine ⟨i + 1, get_lt hi, fun j hj hl2 => ⟨fun hDj => ?_, fun hji => ?_⟩, rfl⟩
      · rcases hDj with rfl | hDj
        · omega
        · by_cases e : j = i
          · omega
          obtain ⟨oj, hoj⟩ := get_of_lt hj
          rcases hok.loud i j o oj hi hoj e (by omega) hl2 (by omega) with ⟨h4, _⟩ | ⟨_, hb⟩
          · omega
          · exact absurd (Done.clo hok hD.down (j + 1) j oj (by omega) hoj (hD.down j oj hoj hDj) i hb) hn
      · by_cases e : j = i
        · exact .inl e
        obtain ⟨oj, hoj⟩ := get_of_lt hj
        rcases hok.loud i j o oj hi hoj e (by omega) hl2 (by omega) with ⟨_, hb⟩ | ⟨h4, _⟩
        · exact .inr (Done.clo hok hD.down (i + 1) i o (by omega) hi hp j hb)
        · omega
    · rw [if_neg hl]
      obtain ⟨m, hm, h, e⟩ := hD.mem
      refine ⟨m, hm, fun j hj h3 => ⟨fun hDj => (h j hj h3).1 (hDj.resolve_left fun e => by subst e; exact hl h3), fun hjm => .inr ((h j hj h3).2 hjm)⟩, e⟩

theorem Done.all (ht : Trace P J l.toArray l cls F R M Bs) (hok : OkD l cls B) {D : Nat → Prop} {fr : Frm} {H : Mem} (hD : Done l cls F R M D fr H) (ha : ∀ i, i < l.length → D i) : fr = F l.length ∧ H = M l.length := by
  refine ⟨funext fun t => ?_, hD.mem' ht _ (Nat.le_refl _) fun j hj _ => ⟨fun _ => hj, fun _ => ha j hj⟩⟩
  by_cases hw : ∃ (j : Nat) (oj : Oper), l[j]? = some oj ∧ oj.dst = some t
  · obtain ⟨j, oj, hj, hd⟩ := hw
    rw [hD.put j oj t hj (ha j (get_lt hj)) hd, ht.got hok hj hd (Nat.le_refl _) (get_lt hj)]
  · rw [hD.keep t fun k ok hk _ hd => hw ⟨k, ok, hk, hd⟩, ht.kept (i := l.length) (Nat.le_refl _) fun k ok _ hk hd => hw ⟨k, ok, hk, hd⟩]

end

theorem draw_sound {P : Program} {J : Mem → Prop} {N : Nat} {l : List Oper} {cls : List Nat} {F : Nat → Frm} {R : Nat → AV} {M Bs : Nat → Mem} {B : Nat → Nat → Prop} {QQ : Exit → Act → World → Prop} {n0 : Nat} {g0 : Gh} {w0 : World}
    (ht : Trace P J l.toArray l cls F R M Bs) (hB0 : Bs 0 = M 0) (hJ : J (M 0)) (hok : OkD l cls B) (hlt : dstsLt l N = true)
    (hQ : ∀ (g : Gh) (w : World) (a : Act), a.defers = [] → FR g (M l.length).length N (F l.length) a.tmps → MR g (M l.length) w → Ev n0 g0 w0 g w → n0 ≤ (M l.length).length → QQ .normal a w) :
    ∀ (fuel : Nat) (listed : Array Bool) (fr : Frm) (H : Mem) (g : Gh) (w : World) (a : Act), listed.size = l.length → listed.count false ≤ fuel → Done l cls F R M (fun i => listed.getD i false = true) fr H →
      a.defers = [] → FR g H.length N fr a.tmps → MR g H w → Ev n0 g0 w0 g w → n0 ≤ H.length → wpAny P .any l.toArray QQ fuel listed a w := by
  have fin : ∀ (listed : Array Bool) (fr : Frm) (H : Mem) (g : Gh) (w : World) (a : Act), listed.size = l.length → Done l cls F R M (fun i => listed.getD i false = true) fr H →
      a.defers = [] → FR g H.length N fr a.tmps → MR g H w → Ev n0 g0 w0 g w → n0 ≤ H.length → Region.ready .any l.toArray listed = [] → QQ .normal a w := by
    intro listed fr H g w a hsz hD hd hf hm he hn hr
    have hall : ∀ (n i : Nat), i < n → i < l.length → listed.getD i false = true := by
      intro n
      induction n with
      | zero => intro i h; exact absurd h (Nat.not_lt_zero _)
      | succ n ih =>
        intro i h hil
        apply Classical.byContradiction
        intro hc
        obtain ⟨o, ho⟩ := get_of_lt hil
        have : i ∈ Region.ready .any l.toArray listed := mem_ready.2 ⟨by simp [hsz, hil] at hc ⊢; exact hc, o, by simpa using ho, fun e he hb => ih _ (by have := hok.low i o ho e he hb; omega) (by have := hok.low i o ho e he hb; omega)⟩
        rw [hr] at this
        cases this
    obtain ⟨h1, h2⟩ := hD.all ht hok fun i hi => hall (i + 1) i (by omega) hi
    subst h1 h2
    exact hQ g w a hd hf hm he hn
  intro fuel
  induction fuel with
  | zero =>
    intro listed fr H g w a hsz hc hD hd hf hm he hn
    have hr : Region.ready .any l.toArray listed = [] := by
      apply List.eq_nil_iff_forall_not_mem.2
      intro i hi
      obtain ⟨h0, o, ho, _⟩ := mem_ready.1 hi
      have hil : i < listed.size := by rw [hsz]; exact get_lt (by simpa using ho)
      have : false ∈ listed := by
        rw [Array.mem_iff_getElem]
        exact ⟨i, hil, by simpa [hil] using h0⟩
      have := Array.count_pos_iff.2 this
      omega
    exact ⟨hr, fin listed fr H g w a hsz hD hd hf hm he hn hr⟩
  | succ fuel ih =>
    intro listed fr H g w a hsz hc hD hd hf hm he hn
    refine ⟨fin listed fr H g w a hsz hD hd hf hm he hn, fun i hi => ?_⟩
    obtain ⟨h0, o, ho, hp⟩ := mem_ready.1 hi
    have hi' : l[i]? = some o := by simpa using ho
    have hil : i < l.length := get_lt hi'
    have hls : i < listed.size := by omega
    have hn0 : ¬ listed.getD i false = true := by simp [hls] at h0 ⊢; exact h0
    have hnext := hD.next ht hok hi' hn0 hp
    have hDeq : (fun j => j = i ∨ listed.getD j false = true) = fun j => (listed.setIfInBounds i true).getD j false = true := by
      funext j
      by_cases e : j = i
      · subst e; simp [hls]
      · rw [getD_set_ne false (Ne.symm e)]; simp [e]
    rw [hDeq] at hnext
    have hcnt : (listed.setIfInBounds i true).count false ≤ fuel := by
      have h1 : listed[i] = false := by simpa [hls] using h0
      have h2 : 0 < listed.count false := Array.count_pos_iff.2 (Array.mem_iff_getElem.2 ⟨i, hls, h1⟩)
      rw [Array.setIfInBounds, dif_pos hls, Array.count_set]
      simp [h1]
      omega
    have hdst : ∀ x, o.dst = some x → x < N := fun x hx => by
      have := List.all_eq_true.1 hlt o (List.mem_of_getElem? hi')
      rw [hx] at this; simpa using this
    obtain ⟨⟨hq, _, _, hs⟩, _⟩ := ht.step i o hi'
    have hag : ∀ t, t ∈ o.looksAt l.toArray → fr t = F i t := fun t => hD.looks ht hok hi' hn0 hp
    have hgd : agd l.toArray fr o = agd l.toArray (F i) o := by
      unfold agd
      cases hgd : o.guard with
      | none => rfl
      | some jw =>
        obtain ⟨j, want⟩ := jw
        simp only
        cases hdj : (l.toArray[j]?).bind (·.dst) with
        | none => rfl
        | some d => simp only [hag d (by simp only [Oper.looksAt, hgd, List.mem_append]; right; rw [hdj]; simp)]
    unfold wpOp
    rw [ho]
    simp only
    rcases hs with ⟨hg, hs⟩ | ⟨hg, hr, hM⟩
    · have hw := wanted_agd hf (hgd.trans hg)
      rw [if_pos hw]
      refine .inl (wp_of_Ls (K := SR H.length g w fun r1 H1 => r1 = R i ∧ H1 = if 2 ≤ cls.getD i 0 then M (i + 1) else H) ?_ ?_)
      · have hop : ∀ t, Operand.tmp t ∈ o.op.operands → fr t = F i t := fun t hx => hag t (by
          simp only [Oper.looksAt, List.mem_append]; left
          exact List.mem_filterMap.2 ⟨.tmp t, Array.mem_toList_iff.2 hx, rfl⟩)
        have hO : OpS P o fr H fun r1 H1 => r1 = R i ∧ H1 = if 2 ≤ cls.getD i 0 then M (i + 1) else H := by
          rcases hs with ⟨hc0, hs⟩ | ⟨hc0, hs⟩ | ⟨hc0, hs⟩
          · rw [if_neg (by omega)]
            exact (hs H (by obtain ⟨m, hm, _, e⟩ := hD.mem; rw [e]; exact ht.inv hJ hm)).congr hop
          · rw [if_neg (by omega)]
            exact (hs H (hD.look ht hB0 hok hi' hn0 hp hc0)).congr hop
          · have hH := hD.here ht hok hi' hn0 hp hc0
            rw [if_pos hc0, hH]
            exact hs.congr hop
        exact hO g w a.eval (fun x _ => VR_aev hf x) hm
      · rintro v w' ⟨r, H', g', ⟨rfl, hH'⟩, hv, hm', he', hn'⟩
        refine ih _ _ _ g' w' _ (by simpa using hsz) hcnt hnext ?_ ?_ (hH' ▸ hm') (he.trans he' hn) (hH' ▸ Nat.le_trans hn hn')
        · cases o.dst <;> exact hd
        · exact hH' ▸ FR.put (FR.mono he'.gle hn' hf) hdst hv
    · have hw := wanted_agd hf (hgd.trans hg)
      rw [if_neg (by rw [hw]; simp)]
      have hH' : (if 2 ≤ cls.getD i 0 then M (i + 1) else H) = H := by
        split
        · rename_i h2; rw [hM, hD.here ht hok hi' hn0 hp h2]
        · rfl
      rw [hH', hr] at hnext
      refine ih _ _ _ g w _ (by simpa using hsz) hcnt hnext ?_ ?_ hm he hn
      · cases o.dst <;> exact hd
      · exact FR.put hf hdst (.sc undef)

theorem MR.drawn {g : Gh} {H : Mem} {w : World} (h : MR g H w) : MR g H { w with drawn := w.drawn + 1 } := h.of_heap rfl

theorem aw_drawJ {P : Program} {N n0 : Nat} {fr : Frm} {H : Mem} {Q : Exit → Frm → Mem → Prop} {id : Nat} {l : List Oper} (hm : P.follows .mixedOrders = true) (cls : List Nat) (hlt : dstsLt l N = true) (hok : okD l cls = true) (J : Mem → Prop) (hJ : J H)
    (h : DRun P J l.toArray cls l fr H H fun fr H => Q .normal fr H) : aw P N n0 (.region id l.toArray true) fr H Q := fun g w a hl hd hf hmr => by
  obtain ⟨F, R, M, Bs, ht, h1, h2, h4, h3⟩ := Trace.of_run h
  refine wp_region_any hm ?_
  refine draw_sound (n0 := n0) (g0 := g) (w0 := w) ht (h4.trans h2.symm) (by rw [h2]; exact hJ) (okD_spec hok) hlt (fun g' w' a' d f m e n => ⟨d, _, _, g', h3, f, m, e, n⟩) _ _ fr H g _ a (by simp) (by simp) ?_ hd hf hmr.drawn
    ⟨.refl _ _, fun _ _ h => ⟨h, rfl⟩, Nat.le_refl _, rfl, rfl, rfl⟩ hl
  refine ⟨fun i o _ hD => ?_, fun i o t _ hD => ?_, fun t _ => by rw [h1], 0, Nat.zero_le _, fun j hj _ => ⟨fun hD => ?_, fun h => absurd h (Nat.not_lt_zero _)⟩, h2.symm⟩
  · simp [Array.getElem?_replicate] at hD
    split at hD <;> simp at hD
  · simp [Array.getElem?_replicate] at hD
    split at hD <;> simp at hD
  · simp [Array.getElem?_replicate] at hD
    split at hD <;> simp at hD

theorem aw_draw {P : Program} {N n0 : Nat} {fr : Frm} {H : Mem} {Q : Exit → Frm → Mem → Prop} {id : Nat} {l : List Oper} (hm : P.follows .mixedOrders = true) (cls : List Nat) (hlt : dstsLt l N = true) (hok : okD l cls = true)
    (h : DRun P (fun _ => True) l.toArray cls l fr H H fun fr H => Q .normal fr H) : aw P N n0 (.region id l.toArray true) fr H Q := aw_drawJ hm cls hlt hok _ trivial h

end Go.Proofs.Yteclchefihcjkaa.Am
