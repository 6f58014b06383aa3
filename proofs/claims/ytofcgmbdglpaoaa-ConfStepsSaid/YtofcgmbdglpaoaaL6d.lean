/- Members of a group: the laws. -/
import Derived.Test.YtofcgmbdglpaoaaL6c
namespace Go.Proofs.Ytofcgmbdglpaoaa.Am
open Go
set_option linter.unusedVariables false
set_option linter.unusedSimpArgs false

theorem clone6 {l : List Int} (hl : l.length ≤ 100000) : slices_Clone_Lint_int l = some l := by unfold slices_Clone_Lint_int; rw [app_of (by simp; omega) (by simp; omega)]; rfl
theorem with_eq {l : List Int} (hl : l.length ≤ 11) (n : Int) : conf_With l n = some (ofS (l ++ [n])) := by
  unfold conf_With
  rw [clone6 (by omega)]
  simp only [Option.bind_some]
  rw [app_of (by simp; omega) (by simp; omega)]
  simp only [Option.bind_some]
  rw [of_eq (by simp; omega)]
  rfl
theorem without_eq {l : List Int} (hl : l.length ≤ 12) (n : Int) : conf_Without l n = some ((ofS l).filter fun x => !(x == n)) := by
  unfold conf_Without
  rw [of_eq hl]
  have := ofS_len l
  simp only [Option.bind_some]
  rw [delete_eq (del := fun z0 => conf_Without_1 z0 n) (p := fun x => x == n) (fun x => rfl) (by omega)]
  rfl
theorem has_eq {l : List Int} (hl : l.length ≤ 100000) (n : Int) : conf_Has l n = some (decide (n ∈ l)) := by
  unfold conf_Has slices_Contains_Lint_int slices_Index_Lint_int
  obtain ⟨r, hr, hp⟩ := loop_exF (b := slices_Index_Lint_int_L1 l n) (s := 0) (fun s => ∃ j : Nat, s = (j : Int) ∧ j ≤ l.length ∧ n ∉ l.take j) (fun s => (l.length - s).toNat)
    (fun r => r = .go () ∧ n ∉ l ∨ ∃ i : Nat, r = .ret (i : Int) ∧ n ∈ l) ⟨0, rfl, by omega, by simp⟩ (by simp; omega) (by
    rintro _ ⟨j, rfl, hj, hx⟩
    dsimp only [slices_Index_Lint_int_L1]
    by_cases hjl : j < l.length
    · rw [if_pos (by simpa using hjl), idx_at hjl]
      simp only [Option.bind_some]
      by_cases e : n = l[j]
      · left
        rw [if_pos (by simpa using e)]
        exact ⟨_, rfl, .inr ⟨j, rfl, by rw [e]; exact List.getElem_mem _⟩⟩
      · right
        rw [if_neg (by simpa using e), wrap_nat (by omega)]
        refine ⟨_, rfl, ⟨j + 1, rfl, hjl, fun h => ?_⟩, by omega⟩
        rw [List.take_succ_eq_append_getElem hjl] at h
        rcases List.mem_append.1 h with h | h
        · exact hx h
        · simp at h; exact e h
    · left
      have : j = l.length := by omega
      subst this
      rw [if_neg (by simp)]
      rw [List.take_length] at hx
      exact ⟨_, rfl, .inl ⟨rfl, hx⟩⟩)
  rw [hr]
  rcases hp with ⟨rfl, h⟩ | ⟨i, rfl, h⟩
  · simp [kont, h]
  · simp [kont, h]
theorem most_eq {l yes : List Int} (hl : l.length ≤ 12) (hy : yes.length ≤ 100000) : conf_Most l yes = some (decide (2 * ((ofS l).filter fun x => decide (x ∈ yes)).length > (ofS l).length)) := by
  unfold conf_Most
  rw [of_eq hl]
  simp only [Option.bind_some]
  have h7 := ofS_len l
  generalize ofS l = s at h7
  have hf := List.length_filter_le (fun x => decide (x ∈ yes)) s
  rw [loop_eqF (s := (0, 0)) (fun t => ∃ j : Nat, t = ((((s.take j).filter fun x => decide (x ∈ yes)).length : Int), (j : Int)) ∧ j ≤ s.length) (fun t => (s.length - t.2).toNat) (fun _ => ((s.filter fun x => decide (x ∈ yes)).length : Int)) ⟨0, by simp, by omega⟩ (by simp; omega)]
  · simp only [Option.bind_some, Option.some.injEq, decide_eq_decide]
    rw [wrap64 (by omega) (by omega)]; omega
  rintro _ ⟨j, rfl, hj⟩
  dsimp only [conf_Most_L1]
  by_cases hjl : j < s.length
  · right
    have hf2 := List.length_filter_le (fun x => decide (x ∈ yes)) (s.take j)
    rw [List.length_take] at hf2
    rw [if_pos (by simpa using hjl), idx_at hjl]
    simp only [Option.bind_some, has_eq hy, wrap_nat (show j ≤ 1000000 by omega)]
    have ht : ((s.take (j + 1)).filter fun x => decide (x ∈ yes)).length = ((s.take j).filter fun x => decide (x ∈ yes)).length + if s[j] ∈ yes then 1 else 0 := by
      rw [List.take_succ_eq_append_getElem hjl, List.filter_append, List.length_append, List.filter_cons]
      split <;> simp_all
    refine ⟨((((s.take (j + 1)).filter fun x => decide (x ∈ yes)).length : Int), ((j + 1 : Nat) : Int)), ?_, ⟨j + 1, rfl, hjl⟩, by simp only; omega, by first | trivial | rfl⟩
    rw [ht]
    by_cases h : s[j] ∈ yes
    · simp only [h, decide_true, if_true, Option.bind_some]
      rw [wrap_nat (by omega)]
    · simp only [h, decide_false, Bool.false_eq_true, if_false, Option.bind_some, Nat.add_zero]
  · left
    have : j = s.length := by omega
    subst this
    rw [if_neg (by simp), List.take_length]
    rfl
theorem ints_eq {l : List Int} (hl : l.length ≤ 10) (hb : ∀ x ∈ l, Ik .u8 x) : ∃ m, mementolaw6_ints l = some m ∧ m.length = l.length := by
  unfold mementolaw6_ints
  obtain ⟨m, h1, h2⟩ := loop_exF (b := mementolaw6_ints_L1 l) (s := ([], 0)) (fun t => ∃ (j : Nat) (m : List Int), t = (m, (j : Int)) ∧ j ≤ l.length ∧ m.length = j) (fun t => (l.length - t.2).toNat) (fun m => m.length = l.length) ⟨0, [], rfl, by omega, rfl⟩ (by simp; omega) (by
    rintro _ ⟨j, m, rfl, hj, hm⟩
    dsimp only [mementolaw6_ints_L1]
    by_cases hjl : j < l.length
    · right
      rw [if_pos (by simpa using hjl), idx_at hjl]
      simp only [Option.bind_some]
      rw [app_of (by simp; omega) (by simp; omega)]
      simp only [Option.bind_some, wrap_nat (show j ≤ 1000000 by omega)]
      exact ⟨_, rfl, ⟨j + 1, _, rfl, hjl, by simp [hm]⟩, by simp only; omega⟩
    · left
      rw [if_neg (by simp; omega)]
      exact ⟨m, rfl, by omega⟩)
  rw [h1]
  exact ⟨m, rfl, h2⟩

/-! Counts -/
def C (p : Int → Bool) : Nat := [0, 1, 2, 3, 4, 5, 6].countP p
theorem ofS_C (l : List Int) : (ofS l).length = C fun n => decide (n ∈ l) := by unfold ofS C; rw [List.countP_eq_length_filter]
theorem ofS_C2 (l : List Int) (q : Int → Bool) : ((ofS l).filter q).length = C fun n => decide (n ∈ l) && q n := by
  unfold ofS C; rw [List.filter_filter, List.countP_eq_length_filter]
  congr 2
  funext n
  rw [Bool.and_comm]
theorem split_L {s s' x y : Int → Bool} (h : ∀ n, ¬ (x n = true ∧ y n = true)) (L : List Int) : L.countP (fun n => s n && x n) + L.countP (fun n => s' n && y n) ≤ L.countP (fun n => s n || s' n) := by
  induction L with
  | nil => simp
  | cons a L ih =>
    rw [List.countP_cons, List.countP_cons, List.countP_cons]
    have ha := h a
    cases s a <;> cases s' a <;> cases hx : x a <;> cases hy : y a <;> simp [hx, hy] at ha ⊢ <;> omega
theorem C_split {s s' x y : Int → Bool} (h : ∀ n, ¬ (x n = true ∧ y n = true)) : C (fun n => s n && x n) + C (fun n => s' n && y n) ≤ C (fun n => s n || s' n) := split_L h _
theorem le_L {p q : Int → Bool} {k : Int} (h : ∀ n, p n = true → q n = true ∨ n = k) (L : List Int) : L.countP p ≤ L.countP q + L.countP (fun n => n == k) := by
  induction L with
  | nil => simp
  | cons a L ih =>
    rw [List.countP_cons, List.countP_cons, List.countP_cons]
    have ha := h a
    cases hp : p a <;> cases hq : q a <;> by_cases hk : a = k <;> simp [hp, hq, hk] at ha ⊢ <;> omega
theorem C_le {p q : Int → Bool} {k : Int} (h : ∀ n, p n = true → q n = true ∨ n = k) : C p ≤ C q + 1 := by
  have h1 : C (fun n => n == k) ≤ 1 := by
    unfold C
    simp only [List.countP_cons, List.countP_nil, beq_iff_eq]
    split <;> split <;> split <;> split <;> split <;> split <;> split <;> omega
  have h2 : C p ≤ C q + C (fun n => n == k) := le_L h _
  omega
theorem C_mono {p q : Int → Bool} (h : ∀ n, p n = true → q n = true) : C p ≤ C q := by
  unfold C
  exact List.countP_mono_left fun n _ => h n

theorem confMeets_eq {a0 a1 a2 : List Int} {k : Int} {add : Bool} (h0 : ∀ x ∈ a0, Ik .u8 x) (h1 : ∀ x ∈ a1, Ik .u8 x) (h2 : ∀ x ∈ a2, Ik .u8 x) (hk : Ik .u8 k) : mementolaw6_ConfMeets a0 a1 a2 k add = some true := by
  unfold mementolaw6_ConfMeets
  rw [known6]
  simp only [Option.bind_some, Bool.not_true, Bool.false_eq_true, if_false]
  by_cases l0 : a0.length ≤ 10
  rotate_left
  · have g : decide ((a0.length : Int) > 10) = true := by simp; omega
    simp only [g]; rfl
  have g0 : decide ((a0.length : Int) > 10) = false := by simp; omega
  by_cases l1 : a1.length ≤ 10
  rotate_left
  · have g : decide ((a1.length : Int) > 10) = true := by simp; omega
    simp only [g0, g]; rfl
  have g1 : decide ((a1.length : Int) > 10) = false := by simp; omega
  by_cases l2 : a2.length ≤ 10
  rotate_left
  · have g : decide ((a2.length : Int) > 10) = true := by simp; omega
    simp only [g0, g1, g]; rfl
  have g2 : decide ((a2.length : Int) > 10) = false := by simp; omega
  simp only [g0, g1, g2, Bool.false_eq_true, if_false, Option.bind_some]
  obtain ⟨m, em, lm⟩ := ints_eq l0 h0
  obtain ⟨x, ex, lx⟩ := ints_eq l1 h1
  obtain ⟨y, ey, ly⟩ := ints_eq l2 h2
  rw [em, ex, ey]
  generalize IntKind.wrap .i64 (Int.tmod k 7) = w
  simp only [Option.bind_some]
  rw [with_eq (by omega) w, without_eq (by omega) w]
  simp only [Option.bind_some]
  obtain ⟨o, ho, lo, hC1, hC2, hC3⟩ : ∃ o, (if (!add) = true then some ((ofS m).filter fun x => !(x == w)) else some (ofS (m ++ [w]))) = some o ∧ o.length ≤ 7 ∧
      C (fun n => decide (n ∈ m) || decide (n ∈ o)) ≤ C (fun n => decide (n ∈ m)) + 1 ∧ C (fun n => decide (n ∈ m) || decide (n ∈ o)) ≤ C (fun n => decide (n ∈ o)) + 1 ∧
      (C (fun n => decide (n ∈ m) || decide (n ∈ o)) = C (fun n => decide (n ∈ m)) ∨ C (fun n => decide (n ∈ m) || decide (n ∈ o)) = C (fun n => decide (n ∈ o))) := by
    cases add
    · refine ⟨(ofS m).filter fun x => !(x == w), rfl, by have := ofS_len m; have := List.length_filter_le (fun x => !(x == w)) (ofS m); omega, ?_⟩
      have e : C (fun n => decide (n ∈ m) || decide (n ∈ (ofS m).filter fun x => !(x == w))) = C (fun n => decide (n ∈ m)) := by
        congr 1; funext n
        by_cases hn : n ∈ m
        · simp [hn]
        · simp [hn, mem_ofS]
      rw [e]
      refine ⟨by omega, ?_, .inl rfl⟩
      have e2 : C (fun n => decide (n ∈ m)) ≤ C (fun n => decide (n ∈ ofS m)) := by
        unfold C
        refine List.countP_mono_left fun n hn h => ?_
        simp only [decide_eq_true_eq] at h ⊢
        rw [mem_ofS]
        refine ⟨h, ?_⟩
        simp only [List.mem_cons, List.not_mem_nil, or_false] at hn
        unfold may
        simp; omega
      have e3 : C (fun n => decide (n ∈ ofS m)) ≤ C (fun n => decide (n ∈ (ofS m).filter fun x => !(x == w))) + 1 := C_le (k := w) fun n h => by
        simp only [decide_eq_true_eq] at h ⊢
        by_cases hw : n = w
        · exact .inr hw
        · exact .inl (List.mem_filter.2 ⟨h, by simp [hw]⟩)
      omega
    · refine ⟨ofS (m ++ [w]), rfl, ofS_len _, ?_⟩
      have e : ∀ n, n ∈ [0, 1, 2, 3, 4, 5, 6] → (decide (n ∈ m) || decide (n ∈ ofS (m ++ [w]))) = decide (n ∈ ofS (m ++ [w])) := fun n hn => by
        have hm : may n = true := by
          simp only [List.mem_cons, List.not_mem_nil, or_false] at hn
          unfold may
          simp; omega
        by_cases h : n ∈ m
        · simp [h, mem_ofS, hm]
        · simp [h]
      have e1 : C (fun n => decide (n ∈ m) || decide (n ∈ ofS (m ++ [w]))) = C (fun n => decide (n ∈ ofS (m ++ [w]))) := by
        unfold C
        exact List.countP_congr fun n hn => by rw [e n hn]
      refine ⟨C_le (k := w) fun n h => ?_, by omega, .inr e1⟩
      simp only [Bool.or_eq_true, decide_eq_true_eq, mem_ofS, List.mem_append, List.mem_singleton] at h ⊢
      rcases h with h | ⟨h | h, _⟩
      · exact .inl h
      · exact .inl h
      · exact .inr h
  rw [ho]
  simp only [Option.bind_some]
  -- in common
  obtain ⟨cm, hcm, hcom⟩ := loop_exF (b := mementolaw6_ConfMeets_L1 x y) (s := (false, 0)) (fun t => ∃ (j : Nat) (c : Bool), t = (c, (j : Int)) ∧ j ≤ x.length ∧ (c = false → ∀ n ∈ x.take j, n ∉ y)) (fun t => (x.length - t.2).toNat) (fun c => c = false → ∀ n ∈ x, n ∉ y)
    ⟨0, false, rfl, by omega, by simp⟩ (by simp; omega) (by
    rintro _ ⟨j, c, rfl, hj, hc⟩
    dsimp only [mementolaw6_ConfMeets_L1]
    by_cases hjl : j < x.length
    · right
      rw [if_pos (by simpa using hjl)]
      cases c
      · simp only [Bool.false_eq_true, if_false]
        rw [idx_at hjl]
        simp only [Option.bind_some, has_eq (show y.length ≤ 100000 by omega), wrap_nat (show j ≤ 1000000 by omega)]
        refine ⟨_, rfl, ⟨j + 1, _, rfl, hjl, fun h n hn => ?_⟩, by simp only; omega⟩
        rw [List.take_succ_eq_append_getElem hjl] at hn
        rcases List.mem_append.1 hn with hn | hn
        · exact hc rfl n hn
        · simp at hn; subst hn; simpa using h
      · simp only [if_true, Option.bind_some, wrap_nat (show j ≤ 1000000 by omega)]
        exact ⟨_, rfl, ⟨j + 1, true, rfl, hjl, fun h => by cases h⟩, by simp only; omega⟩
    · left
      have : j = x.length := by omega
      subst this
      rw [if_neg (by simp)]
      rw [List.take_length] at hc
      exact ⟨c, rfl, hc⟩)
  rw [hcm]
  simp only [Option.bind_some]
  rw [most_eq (l := m) (yes := x) (by omega) (by omega), most_eq (l := m) (yes := y) (by omega) (by omega), most_eq (l := o) (yes := y) (by omega) (by omega)]
  simp only [Option.bind_some, ofS_C, ofS_C2]
  cases cm
  · have hno := hcom rfl
    have d : ∀ n, ¬ (decide (n ∈ x) = true ∧ decide (n ∈ y) = true) := fun n h => by simp only [decide_eq_true_eq] at h; exact hno n h.1 h.2
    have q1 := C_split (s := fun n => decide (n ∈ m)) (s' := fun n => decide (n ∈ m)) d
    have q2 := C_split (s := fun n => decide (n ∈ m)) (s' := fun n => decide (n ∈ o)) d
    simp only [Bool.or_self] at q1
    generalize C (fun n => decide (n ∈ m) && decide (n ∈ x)) = A1 at *
    generalize C (fun n => decide (n ∈ m) && decide (n ∈ y)) = A2 at *
    generalize C (fun n => decide (n ∈ o) && decide (n ∈ y)) = A3 at *
    generalize C (fun n => decide (n ∈ m) || decide (n ∈ o)) = U at *
    generalize C (fun n => decide (n ∈ m)) = B1 at *
    generalize C (fun n => decide (n ∈ o)) = B2 at *
    by_cases c1 : 2 * A1 > B1
    · have c2 : ¬ 2 * A2 > B1 := by omega
      have c3 : ¬ 2 * A3 > B2 := by omega
      simp [c1, c2, c3]
    · simp [c1]
  · by_cases c1 : 2 * C (fun n => decide (n ∈ m) && decide (n ∈ x)) > C (fun n => decide (n ∈ m)) <;> by_cases c2 : 2 * C (fun n => decide (n ∈ m) && decide (n ∈ y)) > C (fun n => decide (n ∈ m)) <;>
      by_cases c3 : 2 * C (fun n => decide (n ∈ o) && decide (n ∈ y)) > C (fun n => decide (n ∈ o)) <;> simp [c1, c2, c3]

end Go.Proofs.Ytofcgmbdglpaoaa.Am
