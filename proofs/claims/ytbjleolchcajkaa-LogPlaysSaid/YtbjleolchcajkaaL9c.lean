/- Lists of few members: compact, who belongs to a list. -/
import Derived.Test.YtbjleolchcajkaaL9b
namespace Go.Proofs.Ytbjleolchcajkaa.Am
open Go
set_option linter.unusedVariables false
set_option linter.unusedSimpArgs false

def SSrt (m : List Int) : Prop := ∀ k l, k < l → l < m.length → gt m k < gt m l

theorem idxP_gt {m : List Int} {k n q : Nat} (h : q < n) (h2 : k + q < m.length) : idxP m k n (q : Int) = some (gt m (k + q)) := by
  unfold idxP
  rw [if_pos (by omega), show ((k : Int) + (q : Int)) = ((k + q : Nat) : Int) by omega, idx_gt h2]

theorem comp2_eq {vs : List Int} {k : Nat} (hl : vs.length ≤ 1000) (hk : k < vs.length) (h1 : 1 ≤ k) (hs : ∀ a b, a < b → b < vs.length → gt vs a ≤ gt vs b) (hst : ∀ a b, a < b → b < k → gt vs a < gt vs b) (hd : gt vs k = gt vs (k - 1)) :
    ∃ (p : Nat) (m : List Int), loopN (slices_Compact_Lint_int_L2 k (vs.length - k)) fuel ((k : Int), 1, vs) = some ((p : Int), m) ∧ p < vs.length ∧ 1 ≤ p ∧ m.length = vs.length ∧ (∀ a b, a < b → b < p → gt m a < gt m b) ∧
      ∀ x, (∃ a, a < p ∧ gt m a = x) ↔ x ∈ vs := by
  obtain ⟨r, hr, p, m, rfl, h⟩ := loop_exF (b := slices_Compact_Lint_int_L2 k (vs.length - k)) (s := ((k : Int), 1, vs))
    (fun s => ∃ (p q : Nat) (m : List Int), s = ((p : Int), (q : Int), m) ∧ 1 ≤ q ∧ k + q ≤ vs.length ∧ 1 ≤ p ∧ p + 1 ≤ k + q ∧ m.length = vs.length ∧ (∀ a b, a < b → b < p → gt m a < gt m b) ∧
      (∀ x, (∃ a, a < p ∧ gt m a = x) ↔ ∃ a, a < k + q ∧ gt vs a = x) ∧ gt m (p - 1) = gt vs (k + q - 1) ∧ ∀ a, k + q - 1 ≤ a → a < vs.length → gt m a = gt vs a) (fun s => (vs.length - s.2.1).toNat)
    (fun r => ∃ (p : Nat) (m : List Int), r = ((p : Int), m) ∧ p < vs.length ∧ 1 ≤ p ∧ m.length = vs.length ∧ (∀ a b, a < b → b < p → gt m a < gt m b) ∧ ∀ x, (∃ a, a < p ∧ gt m a = x) ↔ x ∈ vs)
    ⟨k, 1, vs, rfl, by omega, by omega, h1, by omega, rfl, hst, fun x => by
      constructor
      · rintro ⟨a, ha, e⟩; exact ⟨a, by omega, e⟩
      · rintro ⟨a, ha, e⟩
        by_cases h : a < k
        · exact ⟨a, h, e⟩
        · have : a = k := by omega
          subst this
          exact ⟨a - 1, by omega, by rw [← hd]; exact e⟩, by rw [show k + 1 - 1 = k by omega, hd], fun _ _ _ => rfl⟩ (by simp only; omega) (by
    rintro _ ⟨p, q, m, rfl, q1, q2, p1, p2, hm, hss, hx, hlast, hrest⟩
    dsimp only [slices_Compact_Lint_int_L2]
    by_cases hq : q < vs.length - k
    · right
      have c : decide ((q : Int) < ((vs.length - k : Nat) : Int)) = true := by simp; omega
      rw [if_pos c, idxP_gt hq (by omega), wrap_pre (by omega) (by omega), idxP_gt (by omega) (by omega)]
      simp only [Option.bind_some, wrap_nat (show q ≤ 1000000 by omega)]
      have g1 : gt m (k + q) = gt vs (k + q) := hrest _ (by omega) (by omega)
      have g2 : gt m (k + (q - 1)) = gt vs (k + q - 1) := by rw [show k + (q - 1) = k + q - 1 by omega]; exact hrest _ (by omega) (by omega)
      have hle := hs (k + q - 1) (k + q) (by omega) (by omega)
      rw [g1, g2]
      by_cases e : gt vs (k + q) = gt vs (k + q - 1)
      · have c2 : (gt vs (k + q) != gt vs (k + q - 1)) = false := by simp [e]
        simp only [c2, Bool.false_eq_true, if_false, Option.bind_some]
        refine ⟨_, rfl, ⟨p, q + 1, m, rfl, by omega, by omega, p1, by omega, hm, hss, fun x => (hx x).trans ?_, by rw [hlast, show k + (q + 1) - 1 = k + q by omega, e], fun a h1 h2 => hrest a (by omega) h2⟩, by simp only; omega⟩
        constructor
        · rintro ⟨a, ha, e⟩; exact ⟨a, by omega, e⟩
        · rintro ⟨a, ha, e2⟩
          by_cases h : a < k + q
          · exact ⟨a, h, e2⟩
          · have : a = k + q := by omega
            subst this
            exact ⟨k + q - 1, by omega, by rw [← e]; exact e2⟩
      · have c2 : (gt vs (k + q) != gt vs (k + q - 1)) = true := by simp [e]
        simp only [c2, if_true]
        rw [idx_gt (show p < m.length by omega)]
        simp only [Option.bind_some]
        rw [updL_nat (show p < m.length by omega)]
        simp only [Option.bind_some, wrap_nat (show p ≤ 1000000 by omega)]
        have gk : ∀ t, t < m.length → gt (m.set p (gt vs (k + q))) t = if p = t then gt vs (k + q) else gt m t := fun t ht => gt_set ht
        refine ⟨_, rfl, ⟨p + 1, q + 1, m.set p (gt vs (k + q)), rfl, by omega, by omega, by omega, by omega, by simpa using hm, fun a b h1 h2 => ?_, fun x => ?_, ?_, fun a h1 h2 => ?_⟩, by simp only; omega⟩
        · rw [gk a (by omega), gk b (by omega), if_neg (by omega)]
          by_cases eb : p = b
          · rw [if_pos eb]
            have : gt m a ≤ gt m (p - 1) := by
              by_cases ea : a = p - 1
              · subst ea; exact Int.le_refl _
              · exact Int.le_of_lt (hss a (p - 1) (by omega) (by omega))
            omega
          · rw [if_neg eb]; exact hss a b h1 (by omega)
        · constructor
          · rintro ⟨a, ha, e2⟩
            rw [gk a (by omega)] at e2
            by_cases ea : p = a
            · rw [if_pos ea] at e2; exact ⟨k + q, by omega, e2⟩
            · rw [if_neg ea] at e2
              obtain ⟨b, hb, e3⟩ := (hx x).1 ⟨a, by omega, e2⟩
              exact ⟨b, by omega, e3⟩
          · rintro ⟨a, ha, e2⟩
            by_cases h : a < k + q
            · obtain ⟨b, hb, e3⟩ := (hx x).2 ⟨a, h, e2⟩
              exact ⟨b, by omega, by rw [gk b (by omega), if_neg (by omega)]; exact e3⟩
            · have : a = k + q := by omega
              subst this
              exact ⟨p, by omega, by rw [gk p (by omega), if_pos rfl]; exact e2⟩
        · rw [show p + 1 - 1 = p by omega, gk p (by omega), if_pos rfl, show k + (q + 1) - 1 = k + q by omega]
        · rw [gk a (by omega), if_neg (by omega)]; exact hrest a (by omega) h2
    · left
      have e : k + q = vs.length := by omega
      have c : decide ((q : Int) < ((vs.length - k : Nat) : Int)) = false := by simp; omega
      rw [if_neg (by rw [c]; decide)]
      refine ⟨_, rfl, p, m, rfl, by omega, p1, hm, hss, fun x => (hx x).trans ?_⟩
      rw [mem_gt, e])
  exact ⟨p, m, hr, h⟩

theorem compact_eq {vs : List Int} (hl : vs.length ≤ 1000) (hs : ∀ a b, a < b → b < vs.length → gt vs a ≤ gt vs b) : ∃ m, slices_Compact_Lint_int vs = some m ∧ SSrt m ∧ ∀ x, x ∈ m ↔ x ∈ vs := by
  unfold slices_Compact_Lint_int
  by_cases h2 : vs.length < 2
  · rw [if_pos (by simp; omega)]
    exact ⟨vs, rfl, fun k l h1 h3 => by omega, fun _ => Iff.rfl⟩
  rw [if_neg (by simp; omega)]
  obtain ⟨r, hr, hp⟩ := loop_exF (b := slices_Compact_Lint_int_L1 vs) (s := 1) (fun s => ∃ k : Nat, s = (k : Int) ∧ 1 ≤ k ∧ k ≤ vs.length ∧ ∀ a b, a < b → b < k → gt vs a < gt vs b) (fun s => (vs.length - s).toNat)
    (fun r => (∃ m, r = .ret m ∧ SSrt m ∧ ∀ x, x ∈ m ↔ x ∈ vs) ∨ r = .go () ∧ SSrt vs) ⟨1, rfl, by omega, by omega, fun a b h1 h2 => by omega⟩ (by simp; omega) (by
    rintro _ ⟨k, rfl, k1, k2, hst⟩
    dsimp only [slices_Compact_Lint_int_L1]
    by_cases hk : k < vs.length
    · rw [if_pos (by simpa using hk), idx_gt hk, wrap_pre (by omega) k1, idx_gt (show k - 1 < vs.length by omega)]
      simp only [Option.bind_some]
      by_cases e : gt vs k = gt vs (k - 1)
      · left
        rw [if_pos (by simpa using e)]
        have s1 : slcH vs.length (k : Int) ((vs.length : Nat) : Int) = some (k, vs.length - k) := by unfold slcH; rw [if_pos ⟨by omega, by omega, by omega⟩]; simp
        obtain ⟨p, m, e1, p2, p1, hm, hss, hx⟩ := comp2_eq hl hk k1 hs hst e
        have s2 : slcH vs.length (p : Int) ((vs.length : Nat) : Int) = some (p, vs.length - p) := by unfold slcH; rw [if_pos ⟨by omega, by omega, by omega⟩]; simp
        have s3 : slcH vs.length 0 (p : Int) = some (0, p) := by unfold slcH; rw [if_pos ⟨by omega, by omega, by omega⟩]; simp
        simp only [s1, Option.bind_some, e1, s2, s3]
        have ht : (fillL m p (vs.length - p) 0).take p = m.take p := by
          unfold fillL
          rw [List.append_assoc, List.take_append_of_le_length (by simp; omega), List.take_take, Nat.min_self]
        have gt_tk : ∀ t, t < p → gt (m.take p) t = gt m t := fun t h => by rw [gt_at (by simp; omega), gt_at (by omega), List.getElem_take]
        refine ⟨_, rfl, .inl ⟨_, rfl, ?_, fun x => ?_⟩⟩
        · rw [ht]
          intro a b h1 h3
          rw [List.length_take] at h3
          rw [gt_tk a (by omega), gt_tk b (by omega)]
          exact hss a b h1 (by omega)
        · rw [ht, ← hx x, mem_gt]
          constructor
          · rintro ⟨a, ha, e⟩; rw [List.length_take] at ha; exact ⟨a, by omega, by rw [← gt_tk a (by omega)]; exact e⟩
          · rintro ⟨a, ha, e⟩; exact ⟨a, by rw [List.length_take]; omega, by rw [gt_tk a ha]; exact e⟩
      · right
        rw [if_neg (by simpa using e), wrap_nat (by omega)]
        refine ⟨_, rfl, ⟨k + 1, rfl, by omega, hk, fun a b h1 h3 => ?_⟩, by omega⟩
        by_cases eb : b = k
        · subst eb
          have q := hs (b - 1) b (by omega) hk
          have : gt vs a ≤ gt vs (b - 1) := by
            by_cases ea : a = b - 1
            · subst ea; exact Int.le_refl _
            · exact Int.le_of_lt (hst a (b - 1) (by omega) (by omega))
          omega
        · exact hst a b h1 (by omega)
    · left
      have : k = vs.length := by omega
      subst this
      rw [if_neg (by simp)]
      exact ⟨_, rfl, .inr ⟨rfl, hst⟩⟩)
  rw [hr]
  rcases hp with ⟨m, rfl, h1, h3⟩ | ⟨rfl, h1⟩
  · exact ⟨m, rfl, h1, h3⟩
  · exact ⟨vs, rfl, h1, fun _ => Iff.rfl⟩

theorem SSrt.tail {x : Int} {m : List Int} (h : SSrt (x :: m)) : SSrt m ∧ ∀ y ∈ m, x < y := by
  refine ⟨fun k l h1 h2 => by have := h (k + 1) (l + 1) (by omega) (by simpa using h2); simpa [gt] using this, fun y hy => ?_⟩
  obtain ⟨k, hk, rfl⟩ := mem_gt.1 hy
  have := h 0 (k + 1) (by omega) (by simpa using hk)
  simpa [gt] using this
/-- Two of one order with the same members are the same. -/
theorem SSrt.ext : ∀ {a b : List Int}, SSrt a → SSrt b → (∀ x, x ∈ a ↔ x ∈ b) → a = b
  | [], [], _, _, _ => rfl
  | [], y :: b, _, _, h => absurd ((h y).2 (List.mem_cons_self ..)) (by simp)
  | x :: a, [], _, _, h => absurd ((h x).1 (List.mem_cons_self ..)) (by simp)
  | x :: a, y :: b, h1, h2, h => by
    obtain ⟨t1, l1⟩ := h1.tail
    obtain ⟨t2, l2⟩ := h2.tail
    have e : x = y := by
      rcases List.mem_cons.1 ((h x).1 (List.mem_cons_self ..)) with e | e
      · exact e
      · rcases List.mem_cons.1 ((h y).2 (List.mem_cons_self ..)) with e2 | e2
        · exact e2.symm
        · have := l2 x e; have := l1 y e2; omega
    subst e
    rw [t1.ext t2 fun z => ?_]
    constructor
    · intro hz
      rcases List.mem_cons.1 ((h z).1 (List.mem_cons_of_mem _ hz)) with e | e
      · subst e; have := l1 z hz; omega
      · exact e
    · intro hz
      rcases List.mem_cons.1 ((h z).2 (List.mem_cons_of_mem _ hz)) with e | e
      · subst e; have := l2 z hz; omega
      · exact e

def may (n : Int) : Bool := decide (0 ≤ n) && decide (n < 7)
/-- Those that may be, in order. -/
def ofS (l : List Int) : List Int := [0, 1, 2, 3, 4, 5, 6].filter fun n => decide (n ∈ l)
theorem mem_ofS {l : List Int} {x : Int} : x ∈ ofS l ↔ x ∈ l ∧ may x = true := by
  unfold ofS may
  rw [List.mem_filter]
  simp only [List.mem_cons, List.not_mem_nil, or_false, decide_eq_true_eq, Bool.and_eq_true]
  constructor
  · rintro ⟨h, h2⟩; exact ⟨h2, by omega⟩
  · rintro ⟨h, h2⟩; exact ⟨by omega, h⟩
theorem SSrt.filter (p : Int → Bool) : ∀ {a : List Int}, SSrt a → SSrt (a.filter p)
  | [], _ => fun k l _ h => by simp at h
  | x :: a, h => by
    obtain ⟨t, l⟩ := h.tail
    have ih := t.filter p
    rw [List.filter_cons]
    split
    · intro k m h1 h2
      cases m with
      | zero => omega
      | succ m =>
        have h3 : m < (a.filter p).length := by simpa using h2
        cases k with
        | zero =>
          have := l _ ((List.mem_filter.1 (mem_gt.2 ⟨m, h3, rfl⟩)).1)
          simpa [gt] using this
        | succ k => have := ih k m (by omega) h3; simpa [gt] using this
    · exact ih
theorem seven : SSrt [0, 1, 2, 3, 4, 5, 6] := by
  intro k l h1 h2
  simp only [List.length_cons, List.length_nil] at h2
  have : ∀ l : Fin 7, ∀ k : Fin 7, k < l → gt [0, 1, 2, 3, 4, 5, 6] k < gt [0, 1, 2, 3, 4, 5, 6] l := by decide
  exact this ⟨l, by omega⟩ ⟨k, by omega⟩ h1
theorem ofS_srt (l : List Int) : SSrt (ofS l) := seven.filter _
theorem ofS_len (l : List Int) : (ofS l).length ≤ 7 := List.length_filter_le _ _

theorem of_eq {l : List Int} (hl : l.length ≤ 12) : conf_Of l = some (ofS l) := by
  unfold conf_Of
  have hc : slices_Clone_Lint_int l = some l := by unfold slices_Clone_Lint_int; rw [app_of (by simp; omega) (by simp; omega)]; rfl
  have hd := delete_eq (vs := l) (del := fun z0 => conf_Of_1 z0) (p := fun x => !may x) (fun x => by
    unfold conf_Of_1 conf_may may
    by_cases h : 0 ≤ x
    · simp [h]
    · simp [h]) (by omega)
  rw [hc]
  simp only [Option.bind_some, hd, Bool.not_not]
  have hfl : (l.filter fun x => may x).length ≤ l.length := List.length_filter_le _ _
  obtain ⟨m, h1, h2, h3, h4⟩ := sort_eq (d := l.filter fun x => may x) (by omega)
  rw [h1]
  simp only [Option.bind_some, chkl, h2, if_true]
  obtain ⟨m', c1, c2, c3⟩ := compact_eq (vs := m) (by omega) h4
  rw [c1]
  simp only [Option.bind_some, Option.some.injEq]
  exact c2.ext (ofS_srt l) fun x => by rw [c3, h3, List.mem_filter, mem_ofS]

end Go.Proofs.Ytbjleolchcajkaa.Am
