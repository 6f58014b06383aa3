/- Lists of few members: delete, sort, compact. -/
import Derived.Test.YtbjleolchcajkaaL9a
namespace Go.Proofs.Ytbjleolchcajkaa.Am
open Go
set_option linter.unusedVariables false
set_option linter.unusedSimpArgs false

theorem loop_ex {S T : Type} {b : S → Option (Ctl T S)} (I : S → Prop) (m : S → Nat) (Post : T → Prop)
    (step : ∀ s, I s → (∃ r, b s = some (.ret r) ∧ Post r) ∨ ∃ s', b s = some (.go s') ∧ I s' ∧ m s' < m s) : ∀ (n : Nat) (s : S), I s → m s < n → ∃ r, loopN b n s = some r ∧ Post r
  | 0, s, _, h => absurd h (Nat.not_lt_zero _)
  | n + 1, s, hI, hm => by
    simp only [loopN]
    rcases step s hI with ⟨r, h, hp⟩ | ⟨s', h, h1, h2⟩
    · rw [h]; exact ⟨r, rfl, hp⟩
    · rw [h]
      simp only
      exact loop_ex I m Post step n s' h1 (by omega)
theorem loop_exF {S T : Type} {b : S → Option (Ctl T S)} {s : S} (I : S → Prop) (m : S → Nat) (Post : T → Prop) (hI : I s) (hm : m s ≤ 1099511627776)
    (step : ∀ s, I s → (∃ r, b s = some (.ret r) ∧ Post r) ∨ ∃ s', b s = some (.go s') ∧ I s' ∧ m s' < m s) : ∃ r, loopN b fuel s = some r ∧ Post r :=
  loop_ex I m Post step fuel s hI (by unfold fuel; omega)

theorem wrap_nat {k : Nat} (h : k ≤ 1000000) : IntKind.wrap .i64 ((k : Int) + 1) = ((k + 1 : Nat) : Int) := by rw [wrap64 (by omega) (by omega)]; omega
theorem wrap_pre {k : Nat} (h : k ≤ 1000000) (h0 : 0 < k) : IntKind.wrap .i64 ((k : Int) - 1) = ((k - 1 : Nat) : Int) := by rw [wrap64 (by omega) (by omega)]; omega

/-! Delete -/
theorem index_eq {vs : List Int} {f : Int → Option Bool} {p : Int → Bool} (hf : ∀ x, f x = some (p x)) (hl : vs.length ≤ 100000) :
    ∃ r, slices_IndexFunc_Lint_int_own0 vs f = some r ∧ (r = -1 ∧ (∀ x ∈ vs, p x = false) ∨ ∃ (i : Nat) (h : i < vs.length), r = (i : Int) ∧ p vs[i] = true ∧ ∀ x ∈ vs.take i, p x = false) := by
  unfold slices_IndexFunc_Lint_int_own0
  obtain ⟨r, hr, hp⟩ := loop_exF (b := slices_IndexFunc_Lint_int_own0_L1 vs f) (s := 0) (fun s => ∃ j : Nat, s = (j : Int) ∧ j ≤ vs.length ∧ ∀ x ∈ vs.take j, p x = false) (fun s => (vs.length - s).toNat)
    (fun r => r = .go () ∧ (∀ x ∈ vs, p x = false) ∨ ∃ (i : Nat) (h : i < vs.length), r = .ret (i : Int) ∧ p vs[i] = true ∧ ∀ x ∈ vs.take i, p x = false) ⟨0, rfl, by omega, by simp⟩ (by simp; omega) (by
    rintro _ ⟨j, rfl, hj, hx⟩
    dsimp only [slices_IndexFunc_Lint_int_own0_L1]
    by_cases hjl : j < vs.length
    · rw [if_pos (by simpa using hjl), idx_at hjl]
      simp only [Option.bind_some, hf]
      cases hp : p vs[j]
      · right
        simp only [Bool.false_eq_true, if_false]
        refine ⟨((j + 1 : Nat) : Int), by rw [wrap_nat (by omega)], ⟨j + 1, rfl, hjl, fun x hx2 => ?_⟩, by omega⟩
        rw [List.take_succ_eq_append_getElem hjl] at hx2
        rcases List.mem_append.1 hx2 with h | h
        · exact hx x h
        · simp at h; subst h; exact hp
      · left
        simp only [if_true]
        exact ⟨_, rfl, .inr ⟨j, hjl, rfl, hp, hx⟩⟩
    · left
      have : j = vs.length := by omega
      subst this
      rw [if_neg (by simp)]
      rw [List.take_length] at hx
      exact ⟨_, rfl, .inl ⟨rfl, hx⟩⟩)
  rw [hr]
  rcases hp with ⟨rfl, h⟩ | ⟨i, h, rfl, h1, h2⟩
  · exact ⟨-1, rfl, .inl ⟨rfl, h⟩⟩
  · exact ⟨_, rfl, .inr ⟨i, h, rfl, h1, h2⟩⟩

theorem delete_eq {vs : List Int} {del : Int → Option Bool} {p : Int → Bool} (hf : ∀ x, del x = some (p x)) (hl : vs.length ≤ 100000) : slices_DeleteFunc_Lint_int vs del = some (vs.filter fun x => !p x) := by
  unfold slices_DeleteFunc_Lint_int
  obtain ⟨r, hr, hp⟩ := index_eq hf hl
  rw [hr]
  simp only [Option.bind_some]
  rcases hp with ⟨rfl, h⟩ | ⟨i0, hi0, rfl, h1, h2⟩
  · have : vs.filter (fun x => !p x) = vs := List.filter_eq_self.2 fun x hx => by simp [h x hx]
    rw [this]; rfl
  have hne : ((i0 : Int) == -1) = false := by rw [beq_eq_false_iff_ne]; omega
  simp only [hne, Bool.false_eq_true, if_false, wrap_nat (show i0 ≤ 1000000 by omega)]
  obtain ⟨r, hr, i, m, rfl, hi, hm, ht⟩ := loop_exF (b := slices_DeleteFunc_Lint_int_L1 vs del) (s := ((i0 : Int), ((i0 + 1 : Nat) : Int), vs))
    (fun s => ∃ (i j : Nat) (m : List Int), s = ((i : Int), (j : Int), m) ∧ i < j ∧ j ≤ vs.length ∧ m.length = vs.length ∧ m.take i = (vs.take j).filter (fun x => !p x) ∧ m.drop j = vs.drop j) (fun s => (vs.length - s.2.1).toNat)
    (fun r => ∃ (i : Nat) (m : List Int), r = ((i : Int), m) ∧ i < vs.length ∧ m.length = vs.length ∧ m.take i = vs.filter (fun x => !p x))
    ⟨i0, i0 + 1, vs, rfl, by omega, hi0, rfl, by
      rw [List.take_succ_eq_append_getElem hi0, List.filter_append, List.filter_eq_self.2 fun x hx => by simp [h2 x hx]]
      simp [h1], rfl⟩ (by simp only; omega) (by
    rintro _ ⟨i, j, m, rfl, hij, hj, hm, ht, hd⟩
    dsimp only [slices_DeleteFunc_Lint_int_L1]
    by_cases hjl : j < vs.length
    · right
      have hmj : m[j]'(by omega) = vs[j] := by
        have e1 : (m.drop j)[0]? = (vs.drop j)[0]? := by rw [hd]
        rw [List.getElem?_drop, List.getElem?_drop, Nat.add_zero, List.getElem?_eq_getElem (by omega), List.getElem?_eq_getElem hjl] at e1
        exact Option.some.inj e1
      have hd2 : m.drop (j + 1) = vs.drop (j + 1) := by rw [← List.drop_drop, ← List.drop_drop, hd]
      rw [if_pos (by simpa using hjl), idx_at (show j < m.length by omega), hmj]
      simp only [Option.bind_some, hf, wrap_nat (show j ≤ 1000000 by omega)]
      cases hp : p vs[j]
      · simp only [Bool.not_false, if_true]
        rw [idx_at (show i < m.length by omega)]
        simp only [Option.bind_some]
        rw [updL_nat (show i < m.length by omega)]
        simp only [Option.bind_some, wrap_nat (show i ≤ 1000000 by omega)]
        refine ⟨_, rfl, ⟨i + 1, j + 1, m.set i vs[j], rfl, by omega, hjl, by simpa using hm, ?_, ?_⟩, by simp only; omega⟩
        · rw [List.take_succ_eq_append_getElem (by simp; omega), List.take_set_of_le (Nat.le_refl _), List.getElem_set_self, ht, List.take_succ_eq_append_getElem hjl, List.filter_append]
          simp [hp]
        · rw [List.drop_set_of_lt (by omega)]; exact hd2
      · simp only [Bool.not_true, Bool.false_eq_true, if_false, Option.bind_some]
        refine ⟨_, rfl, ⟨i, j + 1, m, rfl, by omega, hjl, hm, ?_, hd2⟩, by simp only; omega⟩
        rw [ht, List.take_succ_eq_append_getElem hjl, List.filter_append]
        simp [hp]
    · left
      have : j = vs.length := by omega
      subst this
      rw [if_neg (by simp)]
      rw [List.take_length] at ht
      exact ⟨_, rfl, i, m, rfl, hij, hm, ht⟩)
  rw [hr]
  simp only [Option.bind_some]
  unfold slcH
  rw [if_pos ⟨by omega, by omega, by omega⟩, if_pos ⟨by omega, by omega, by omega⟩]
  simp only [Option.bind_some, Int.toNat_natCast, Int.toNat_zero, Nat.sub_zero, Option.some.injEq]
  unfold fillL
  rw [List.append_assoc, List.take_append_of_le_length (by simp; omega), List.take_take, Nat.min_self, ht]

/-! Sort -/
def gt (m : List Int) (k : Nat) : Int := m.getD k 0
theorem gt_at {m : List Int} {k : Nat} (h : k < m.length) : gt m k = m[k] := by unfold gt; rw [List.getD_eq_getElem?_getD, List.getElem?_eq_getElem h]; rfl
theorem idx_gt {m : List Int} {k : Nat} (h : k < m.length) : idx m (k : Int) = some (gt m k) := by rw [idx_at h, gt_at h]
theorem gt_set {m : List Int} {i k : Nat} {x : Int} (h : k < m.length) : gt (m.set i x) k = if i = k then x else gt m k := by
  rw [gt_at (by simpa using h), gt_at h, List.getElem_set]
theorem less_eq (x y : Int) : cmp_Less_int x y = some (decide (x < y)) := by simp [cmp_Less_int, cmp_isNaN_int]
theorem mem_gt {m : List Int} {x : Int} : x ∈ m ↔ ∃ k, k < m.length ∧ gt m k = x := by
  constructor
  · intro h; obtain ⟨k, hk, rfl⟩ := List.getElem_of_mem h; exact ⟨k, hk, gt_at hk⟩
  · rintro ⟨k, hk, rfl⟩; rw [gt_at hk]; exact List.getElem_mem _

theorem swap_mem {m : List Int} {j : Nat} (h0 : 0 < j) (h : j < m.length) (x : Int) : x ∈ (m.set j (gt m (j - 1))).set (j - 1) (gt m j) ↔ x ∈ m := by
  rw [mem_gt, mem_gt]
  simp only [List.length_set]
  constructor
  · rintro ⟨k, hk, rfl⟩
    rw [gt_set (by simpa using hk)]
    split
    · exact ⟨j, h, rfl⟩
    · rw [gt_set hk]
      split
      · exact ⟨j - 1, by omega, rfl⟩
      · exact ⟨k, hk, rfl⟩
  · rintro ⟨k, hk, rfl⟩
    by_cases e : k = j
    · subst e; exact ⟨k - 1, by omega, by rw [gt_set (by simp; omega), if_pos rfl]⟩
    · by_cases e2 : k = j - 1
      · subst e2; exact ⟨j, h, by rw [gt_set (by simpa using h), if_neg (by omega), gt_set h, if_pos rfl]⟩
      · exact ⟨k, hk, by rw [gt_set (by simpa using hk), if_neg (by omega), gt_set hk, if_neg (by omega)]⟩

theorem inner_eq {d : List Int} {i : Nat} (hi : i < d.length) (hl : d.length ≤ 1000) (hs : ∀ k l, k < l → l < i → gt d k ≤ gt d l) :
    ∃ m, loopN (slices_insertionSortOrdered_int_L2 0) fuel ((i : Int), d) = some m ∧ m.length = d.length ∧ (∀ x, x ∈ m ↔ x ∈ d) ∧ ∀ k l, k < l → l < i + 1 → gt m k ≤ gt m l := by
  refine loop_exF (fun s => ∃ (j : Nat) (m : List Int), s = ((j : Int), m) ∧ j ≤ i ∧ m.length = d.length ∧ (∀ x, x ∈ m ↔ x ∈ d) ∧ ∀ k l, k < l → l < i + 1 → l ≠ j → gt m k ≤ gt m l) (fun s => s.1.toNat) _
    ⟨i, d, rfl, Nat.le_refl _, rfl, fun _ => Iff.rfl, fun k l h1 h2 h3 => hs k l h1 (by omega)⟩ (by simp only [Int.toNat_natCast]; omega) ?_
  rintro _ ⟨j, m, rfl, hj, hm, hx, hso⟩
  dsimp only [slices_insertionSortOrdered_int_L2]
  by_cases h0 : 0 < j
  · have c0 : decide ((j : Int) > 0) = true := by simpa using h0
    have hjm : j < m.length := by omega
    rw [if_pos c0, idx_gt hjm, wrap_pre (by omega) h0, idx_gt (show j - 1 < m.length by omega)]
    simp only [Option.bind_some, less_eq]
    by_cases hlt : gt m j < gt m (j - 1)
    · right
      simp only [hlt, decide_true, if_true]
      rw [updL_nat hjm]
      simp only [Option.bind_some]
      rw [idx_gt (show j - 1 < (m.set j (gt m (j - 1))).length by simp; omega), updL_nat (by simp; omega)]
      simp only [Option.bind_some]
      refine ⟨_, rfl, ⟨j - 1, (m.set j (gt m (j - 1))).set (j - 1) (gt m j), rfl, by omega, by simpa using hm, fun x => (swap_mem h0 hjm x).trans (hx x), fun k l h1 h2 h3 => ?_⟩, by simp only [Int.toNat_natCast]; omega⟩
      have gk : ∀ t, t < m.length → gt ((m.set j (gt m (j - 1))).set (j - 1) (gt m j)) t = if j - 1 = t then gt m j else if j = t then gt m (j - 1) else gt m t := fun t ht => by
        rw [gt_set (by simpa using ht), gt_set ht]
      rw [gk k (by omega), gk l (by omega)]
      have q1 := fun h => hso k l h1 h2 h
      by_cases e1 : j = l
      · rw [if_neg (show ¬ j - 1 = l by omega), if_pos e1]
        by_cases e2 : j - 1 = k
        · rw [if_pos e2]; omega
        · rw [if_neg e2, if_neg (show ¬ j = k by omega)]
          exact hso k (j - 1) (by omega) (by omega) (by omega)
      · rw [if_neg (show ¬ j - 1 = l by omega), if_neg e1]
        by_cases e2 : j - 1 = k
        · rw [if_pos e2]
          by_cases e3 : l < j
          · omega
          · exact hso j l (by omega) h2 (by omega)
        · rw [if_neg e2]
          by_cases e3 : j = k
          · rw [if_pos e3]; exact hso (j - 1) l (by omega) h2 (by omega)
          · rw [if_neg e3]; exact q1 (by omega)
    · left
      simp only [hlt, decide_false, Bool.false_eq_true, if_false]
      refine ⟨m, rfl, hm, hx, fun k l h1 h2 => ?_⟩
      by_cases e : l = j
      · subst e
        by_cases e2 : k = l - 1
        · subst e2; omega
        · have := hso k (l - 1) (by omega) (by omega) (by omega); omega
      · exact hso k l h1 h2 e
  · left
    have : j = 0 := by omega
    subst this
    refine ⟨m, rfl, hm, hx, fun k l h1 h2 => hso k l h1 h2 (by omega)⟩

theorem ins_eq {d : List Int} (hl : d.length ≤ 1000) : ∃ m, slices_insertionSortOrdered_int d 0 (d.length : Int) = some m ∧ m.length = d.length ∧ (∀ x, x ∈ m ↔ x ∈ d) ∧ ∀ k l, k < l → l < m.length → gt m k ≤ gt m l := by
  unfold slices_insertionSortOrdered_int
  have e1 : IntKind.wrap .i64 (0 + 1) = ((1 : Nat) : Int) := by rw [wrap64 (by omega) (by omega)]; rfl
  rw [e1]
  obtain ⟨m, h1, h2, h3, h4⟩ := loop_exF (b := slices_insertionSortOrdered_int_L1 0 (d.length : Int)) (s := (((1 : Nat) : Int), d))
    (fun s => ∃ (i : Nat) (m : List Int), s = ((i : Int), m) ∧ 1 ≤ i ∧ m.length = d.length ∧ (∀ x, x ∈ m ↔ x ∈ d) ∧ ∀ k l, k < l → l < i → gt m k ≤ gt m l) (fun s => (d.length - s.1).toNat)
    (fun m => m.length = d.length ∧ (∀ x, x ∈ m ↔ x ∈ d) ∧ ∀ k l, k < l → l < m.length → gt m k ≤ gt m l) ⟨1, d, rfl, by omega, rfl, fun _ => Iff.rfl, fun k l h1 h2 => by omega⟩ (by simp only; omega) (by
    rintro _ ⟨i, m, rfl, hi, hm, hx, hs⟩
    dsimp only [slices_insertionSortOrdered_int_L1]
    by_cases h : i < d.length
    · right
      obtain ⟨m', e1, e2, e3, e4⟩ := inner_eq (d := m) (i := i) (by omega) (by omega) hs
      rw [if_pos (by simpa using h), e1]
      simp only [Option.bind_some, wrap_nat (show i ≤ 1000000 by omega)]
      exact ⟨_, rfl, ⟨i + 1, m', rfl, by omega, by omega, fun x => (e3 x).trans (hx x), e4⟩, by simp only; omega⟩
    · left
      rw [if_neg (by simp; omega)]
      exact ⟨m, rfl, hm, hx, fun k l h1 h2 => hs k l h1 (by omega)⟩)
  rw [h1]
  exact ⟨m, rfl, h2, h3, h4⟩

theorem lens : (List.range 13).all (fun n => (math_bits_Len (IntKind.wrap .u64 (n : Int))).isSome) = true := by kernel_rfl

theorem loopN_ret {S T : Type} {b : S → Option (Ctl T S)} {n : Nat} {s : S} {t : T} (h : b s = some (.ret t)) : loopN b (n + 1) s = some t := by simp only [loopN, h]

theorem sort_eq {d : List Int} (hl : d.length ≤ 12) : ∃ m, slices_Sort_Lint_int d = some m ∧ m.length = d.length ∧ (∀ x, x ∈ m ↔ x ∈ d) ∧ ∀ k l, k < l → l < m.length → gt m k ≤ gt m l := by
  unfold slices_Sort_Lint_int
  have hL := List.all_eq_true.1 lens d.length (List.mem_range.2 (by omega))
  obtain ⟨y, hy⟩ := Option.isSome_iff_exists.1 hL
  obtain ⟨m, h1, h2, h3, h4⟩ := ins_eq (d := d) (by omega)
  rw [hy]
  simp only [Option.bind_some]
  have hp : slices_pdqsortOrdered_int d 0 (d.length : Int) y = some m := by
    unfold slices_pdqsortOrdered_int
    refine loopN_ret (n := 4611686018427387903) ?_
    dsimp only [slices_pdqsortOrdered_int_L1]
    have c : decide (IntKind.wrap .i64 ((d.length : Int) - 0) ≤ 12) = true := by rw [wrap64 (by omega) (by omega)]; simp; omega
    rw [if_pos c, h1]
    simp only [Option.bind_some, chkl, h2, if_true, early, Option.map_some]
  rw [hp]
  simp only [Option.bind_some, chkl, h2, if_true]
  exact ⟨m, rfl, h2, h3, h4⟩

end Go.Proofs.Ytbjleolchcajkaa.Am
