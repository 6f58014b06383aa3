/- A row of few whole numbers, sorted: the same numbers, in order. -/
import Derived.Test.YteoalgkckhijlaaW8
import Derived.Test.YteoalgkckhijlaaO0
namespace Go.Proofs.Yteoalgkckhijlaa.Am
open Go
set_option linter.unusedVariables false
set_option linter.unusedSimpArgs false

theorem loop_ex {S T : Type} {b : S → Option (Ctl T S)} (I : S → Prop) (m : S → Nat) (Post : T → Prop)
    (step : ∀ s, I s → (∃ r, b s = some (.ret r) ∧ Post r) ∨ ∃ s', b s = some (.go s') ∧ I s' ∧ m s' < m s) : ∀ (n : Nat) (s : S), I s → m s < n → ∃ r, loopN b n s = some r ∧ Post r
  | 0, s, _, h => absurd h (Nat.not_lt_zero _)
  | n + 1, s, hI, hm => by
    simp only [loopN]
    rcases step s hI with ⟨r, h, hp⟩ | ⟨s', h, h1, h2⟩
    · rw [h]; exact ⟨r, rfl, hp⟩
    · rw [h]
      simp only
      exact loop_ex I m Post step n s' h1 (by omega)
theorem loop_exF {S T : Type} {b : S → Option (Ctl T S)} {s : S} (I : S → Prop) (m : S → Nat) (Post : T → Prop) (hI : I s) (hm : m s ≤ 1099511627776)
    (step : ∀ s, I s → (∃ r, b s = some (.ret r) ∧ Post r) ∨ ∃ s', b s = some (.go s') ∧ I s' ∧ m s' < m s) : ∃ r, loopN b fuel s = some r ∧ Post r :=
  loop_ex I m Post step fuel s hI (by unfold fuel; omega)

theorem wrap_nat {k : Nat} (h : k ≤ 1000000) : IntKind.wrap .i64 ((k : Int) + 1) = ((k + 1 : Nat) : Int) := by rw [wrap64 (by omega) (by omega)]; omega
theorem wrap_pre {k : Nat} (h : k ≤ 1000000) (h0 : 0 < k) : IntKind.wrap .i64 ((k : Int) - 1) = ((k - 1 : Nat) : Int) := by rw [wrap64 (by omega) (by omega)]; omega

def gt (m : List Int) (k : Nat) : Int := m.getD k 0
theorem gt_at {m : List Int} {k : Nat} (h : k < m.length) : gt m k = m[k] := by unfold gt; rw [List.getD_eq_getElem?_getD, List.getElem?_eq_getElem h]; rfl
theorem idx_gt {m : List Int} {k : Nat} (h : k < m.length) : idx m (k : Int) = some (gt m k) := by rw [idx_at h, gt_at h]
theorem gt_set {m : List Int} {i k : Nat} {x : Int} (h : k < m.length) : gt (m.set i x) k = if i = k then x else gt m k := by
  rw [gt_at (by simpa using h), gt_at h, List.getElem_set]
theorem less_eq (x y : Int) : cmp_Less_int x y = some (decide (x < y)) := by simp [cmp_Less_int, cmp_isNaN_int]
theorem swap_perm {m : List Int} {j : Nat} (h0 : 0 < j) (h : j < m.length) : ((m.set j (gt m (j - 1))).set (j - 1) (gt m j)).Perm m := by
  have := @List.set_set_perm Int m j (j - 1) h (by omega)
  rw [gt_at (show j - 1 < m.length by omega), gt_at h]
  exact this

theorem inner_eq {d : List Int} {i : Nat} (hi : i < d.length) (hl : d.length ≤ 1000) (hs : ∀ k l, k < l → l < i → gt d k ≤ gt d l) :
    ∃ m, loopN (slices_insertionSortOrdered_int_L2 0) fuel ((i : Int), d) = some m ∧ m.length = d.length ∧ m.Perm d ∧ ∀ k l, k < l → l < i + 1 → gt m k ≤ gt m l := by
  refine loop_exF (fun s => ∃ (j : Nat) (m : List Int), s = ((j : Int), m) ∧ j ≤ i ∧ m.length = d.length ∧ m.Perm d ∧ ∀ k l, k < l → l < i + 1 → l ≠ j → gt m k ≤ gt m l) (fun s => s.1.toNat) _
    ⟨i, d, rfl, Nat.le_refl _, rfl, List.Perm.refl _, fun k l h1 h2 h3 => hs k l h1 (by omega)⟩ (by simp only [Int.toNat_natCast]; omega) ?_
  rintro _ ⟨j, m, rfl, hj, hm, hx, hso⟩
  dsimp only [slices_insertionSortOrdered_int_L2]
  by_cases h0 : 0 < j
  · have c0 : decide ((j : Int) > 0) = true := by simpa using h0
    have hjm : j < m.length := by omega
    rw [if_pos c0, idx_gt hjm, wrap_pre (by omega) h0, idx_gt (show j - 1 < m.length by omega)]
    simp only [Option.bind_some, less_eq]
    by_cases hlt : gt m j < gt m (j - 1)
    · right
      simp only [hlt, decide_true, if_true]
      rw [updL_nat hjm]
      simp only [Option.bind_some]
      rw [idx_gt (show j - 1 < (m.set j (gt m (j - 1))).length by simp; omega), updL_nat (by simp; omega)]
      simp only [Option.bind_some]
      refine ⟨_, rfl, ⟨j - 1, (m.set j (gt m (j - 1))).set (j - 1) (gt m j), rfl, by omega, by simpa using hm, (swap_perm h0 hjm).trans hx, fun k l h1 h2 h3 => ?_⟩, by simp only [Int.toNat_natCast]; omega⟩
      have gk : ∀ t, t < m.length → gt ((m.set j (gt m (j - 1))).set (j - 1) (gt m j)) t = if j - 1 = t then gt m j else if j = t then gt m (j - 1) else gt m t := fun t ht => by
        rw [gt_set (by simpa using ht), gt_set ht]
      rw [gk k (by omega), gk l (by omega)]
      have q1 := fun h => hso k l h1 h2 h
      by_cases e1 : j = l
      · rw [if_neg (show ¬ j - 1 = l by omega), if_pos e1]
        by_cases e2 : j - 1 = k
        · rw [if_pos e2]; omega
        · rw [if_neg e2, if_neg (show ¬ j = k by omega)]
          exact hso k (j - 1) (by omega) (by omega) (by omega)
      · rw [if_neg (show ¬ j - 1 = l by omega), if_neg e1]
        by_cases e2 : j - 1 = k
        · rw [if_pos e2]
          by_cases e3 : l < j
          · omega
          · exact hso j l (by omega) h2 (by omega)
        · rw [if_neg e2]
          by_cases e3 : j = k
          · rw [if_pos e3]; exact hso (j - 1) l (by omega) h2 (by omega)
          · rw [if_neg e3]; exact q1 (by omega)
    · left
      simp only [hlt, decide_false, Bool.false_eq_true, if_false]
      refine ⟨m, rfl, hm, hx, fun k l h1 h2 => ?_⟩
      by_cases e : l = j
      · subst e
        by_cases e2 : k = l - 1
        · subst e2; omega
        · have := hso k (l - 1) (by omega) (by omega) (by omega); omega
      · exact hso k l h1 h2 e
  · left
    have : j = 0 := by omega
    subst this
    refine ⟨m, rfl, hm, hx, fun k l h1 h2 => hso k l h1 h2 (by omega)⟩

theorem ins_eq {d : List Int} (hl : d.length ≤ 1000) : ∃ m, slices_insertionSortOrdered_int d 0 (d.length : Int) = some m ∧ m.length = d.length ∧ m.Perm d ∧ ∀ k l, k < l → l < m.length → gt m k ≤ gt m l := by
  unfold slices_insertionSortOrdered_int
  have e1 : IntKind.wrap .i64 (0 + 1) = ((1 : Nat) : Int) := by rw [wrap64 (by omega) (by omega)]; rfl
  rw [e1]
  obtain ⟨m, h1, h2, h3, h4⟩ := loop_exF (b := slices_insertionSortOrdered_int_L1 0 (d.length : Int)) (s := (((1 : Nat) : Int), d))
    (fun s => ∃ (i : Nat) (m : List Int), s = ((i : Int), m) ∧ 1 ≤ i ∧ m.length = d.length ∧ m.Perm d ∧ ∀ k l, k < l → l < i → gt m k ≤ gt m l) (fun s => (d.length - s.1).toNat)
    (fun m => m.length = d.length ∧ m.Perm d ∧ ∀ k l, k < l → l < m.length → gt m k ≤ gt m l) ⟨1, d, rfl, by omega, rfl, List.Perm.refl _, fun k l h1 h2 => by omega⟩ (by simp only; omega) (by
    rintro _ ⟨i, m, rfl, hi, hm, hx, hs⟩
    dsimp only [slices_insertionSortOrdered_int_L1]
    by_cases h : i < d.length
    · right
      obtain ⟨m', e1, e2, e3, e4⟩ := inner_eq (d := m) (i := i) (by omega) (by omega) hs
      rw [if_pos (by simpa using h), e1]
      simp only [Option.bind_some, wrap_nat (show i ≤ 1000000 by omega)]
      exact ⟨_, rfl, ⟨i + 1, m', rfl, by omega, by omega, e3.trans hx, e4⟩, by simp only; omega⟩
    · left
      rw [if_neg (by simp; omega)]
      exact ⟨m, rfl, hm, hx, fun k l h1 h2 => hs k l h1 (by omega)⟩)
  rw [h1]
  exact ⟨m, rfl, h2, h3, h4⟩

theorem lens : (List.range 13).all (fun n => (math_bits_Len (IntKind.wrap .u64 (n : Int))).isSome) = true := by kernel_rfl

theorem loopN_ret {S T : Type} {b : S → Option (Ctl T S)} {n : Nat} {s : S} {t : T} (h : b s = some (.ret t)) : loopN b (n + 1) s = some t := by simp only [loopN, h]

theorem sort_eq {d : List Int} (hl : d.length ≤ 12) : ∃ m, slices_Sort_Lint_int d = some m ∧ m.length = d.length ∧ m.Perm d ∧ ∀ k l, k < l → l < m.length → gt m k ≤ gt m l := by
  unfold slices_Sort_Lint_int
  have hL := List.all_eq_true.1 lens d.length (List.mem_range.2 (by omega))
  obtain ⟨y, hy⟩ := Option.isSome_iff_exists.1 hL
  obtain ⟨m, h1, h2, h3, h4⟩ := ins_eq (d := d) (by omega)
  rw [hy]
  simp only [Option.bind_some]
  have hp : slices_pdqsortOrdered_int d 0 (d.length : Int) y = some m := by
    unfold slices_pdqsortOrdered_int
    refine loopN_ret (n := 4611686018427387903) ?_
    dsimp only [slices_pdqsortOrdered_int_L1]
    have c : decide (IntKind.wrap .i64 ((d.length : Int) - 0) ≤ 12) = true := by rw [wrap64 (by omega) (by omega)]; simp; omega
    rw [if_pos c, h1]
    simp only [Option.bind_some, chkl, h2, if_true, early, Option.map_some]
  rw [hp]
  simp only [Option.bind_some, chkl, h2, if_true]
  exact ⟨m, rfl, h2, h3, h4⟩

end Go.Proofs.Yteoalgkckhijlaa.Am
