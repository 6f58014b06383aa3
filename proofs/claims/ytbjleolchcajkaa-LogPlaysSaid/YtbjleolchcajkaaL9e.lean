/- A log: its functions and the document's, in closed form. -/
import Derived.Test.YtbjleolchcajkaaL9a
import Derived.Test.YtbjleolchcajkaaL9d
namespace Go.Proofs.Ytbjleolchcajkaa.Am
open Go
set_option linter.unusedVariables false
set_option linter.unusedSimpArgs false

abbrev En := Api_Entry
/-- An entry as a log may have it. -/
structure EOk (e : En) : Prop where
  t0 : 0 ≤ e.Term
  t1 : e.Term ≤ 1000000
  d : e.Data.length ≤ 100000
  c : e.Kind = 2 → ∃ a b, e.Data = [a, b] ∧ 0 ≤ a ∧ a < 7 ∧ 0 ≤ b ∧ b ≤ 1
/-- A log as it may be. -/
structure GOk (b : Api_Base) (l : List En) : Prop where
  i0 : 0 ≤ b.Index
  i1 : b.Index + l.length ≤ 10000
  cf : b.Conf.length ≤ 7
  dt : b.Data.length ≤ 100000
  e : ∀ x ∈ l, EOk x
  ix : ∀ k (h : k < l.length), l[k].Index = b.Index + k + 1

theorem cloneB {l : List Int} (hl : l.length ≤ 100000) : slices_Clone_Lbyte_byte l = some l := by unfold slices_Clone_Lbyte_byte; rw [app_of (by simp; omega) (by simp; omega)]; rfl
theorem cloneE {l : List En} (hl : l.length ≤ 100000) : slices_Clone_Lapi_Entry_api_Entry l = some l := by unfold slices_Clone_Lapi_Entry_api_Entry; rw [app_of (by simp; omega) (by simp; omega)]; rfl
theorem copied_eq {e : En} (h : e.Data.length ≤ 100000) : rlog_copied e = some e := by unfold rlog_copied; rw [cloneB h]; rfl
theorem under_eq {b : Api_Base} (h : b.Data.length ≤ 100000) (h2 : b.Conf.length ≤ 100000) : rlog_under b = some b := by unfold rlog_under; rw [cloneB h, clone6 h2]; rfl

theorem all_eq {l : List En} (hl : l.length ≤ 100000) (h : ∀ x ∈ l, x.Data.length ≤ 100000) : rlog_all l = some l := by
  unfold rlog_all mks
  rw [if_pos ⟨by omega, by omega, by omega⟩]
  simp only [Option.bind_some, Int.toNat_natCast]
  rw [loop_eqF (fun s => ∃ k : Nat, k ≤ l.length ∧ s = ((k : Int), l.take k ++ List.replicate (l.length - k) (Api_Entry.mk 0 0 0 []))) (fun s => l.length - s.1.toNat) (fun _ => l) ⟨0, by omega, by simp⟩ (by simp; omega)]
  · rfl
  rintro _ ⟨k, hk, rfl⟩
  simp only [rlog_all_L1]
  by_cases hkl : k < l.length
  · right
    have ln : (l.take k ++ List.replicate (l.length - k) (Api_Entry.mk 0 0 0 [])).length = l.length := by simp; omega
    rw [if_pos (by simpa using hkl), idx_at hkl, Option.bind_some, copied_eq (h _ (List.getElem_mem hkl)), Option.bind_some, idx_at (by omega), Option.bind_some, updL_nat (by omega), Option.bind_some, wrap_nat (by omega)]
    refine ⟨_, rfl, ⟨k + 1, hkl, ?_⟩, by simp only [Int.toNat_natCast]; omega, trivial⟩
    rw [List.set_append_right _ _ (by simp; omega), List.length_take, Nat.min_eq_left (by omega), Nat.sub_self, List.take_succ_eq_append_getElem hkl]
    obtain ⟨m, hm⟩ : ∃ m, l.length - k = m + 1 := ⟨l.length - k - 1, by omega⟩
    rw [hm, List.replicate_succ, List.set_cons_zero, show l.length - (k + 1) = m by omega, List.append_assoc]
    rfl
  · left
    have : k = l.length := by omega
    subst this
    rw [if_neg (by simp)]
    simp [early]

/-- The term at an index. -/
def termS (b : Api_Base) (l : List En) (i : Int) : Int :=
  if i = b.Index then b.Term else if b.Index < i ∧ i ≤ b.Index + l.length then (l.getD (i - b.Index - 1).toNat default).Term else -1

theorem getD_at {l : List En} {k : Nat} (h : k < l.length) : l.getD k default = l[k] := by rw [List.getD_eq_getElem?_getD, List.getElem?_eq_getElem h]; rfl
theorem rlast_eq {b : Api_Base} {l : List En} (h0 : 0 ≤ b.Index) (h1 : b.Index + l.length ≤ 1000000) : rlog_tail_Last ⟨b, l⟩ = some (b.Index + l.length) := by
  unfold rlog_tail_Last; rw [wrap64 (by simp only; omega) (by simp only; omega)]
theorem wlast_eq {b : Api_Base} {l : List En} (h0 : 0 ≤ b.Index) (h1 : b.Index + l.length ≤ 1000000) : mementoref6_Log_Last ⟨b, l⟩ = some (b.Index + l.length) := rlast_eq h0 h1
theorem rterm_eq {b : Api_Base} {l : List En} (h0 : 0 ≤ b.Index) (h1 : b.Index + l.length ≤ 1000000) (i : Int) : rlog_tail_Term ⟨b, l⟩ i = some (termS b l i) := by
  unfold rlog_tail_Term termS
  rw [rlast_eq h0 h1]
  simp only [beq_iff_eq, Option.bind_some]
  by_cases e : i = b.Index
  · rw [if_pos e, if_pos e]
  rw [if_neg e, if_neg e]
  by_cases e1 : b.Index < i
  · rw [if_pos (by simpa using e1), Option.bind_some]
    by_cases e2 : i ≤ b.Index + l.length
    · rw [if_pos (by simpa using e2), if_pos ⟨e1, e2⟩]
      rw [wrap64 (n := i - b.Index) (by omega) (by omega), wrap64 (by omega) (by omega)]
      obtain ⟨k, hk⟩ : ∃ k : Nat, i - b.Index - 1 = k := ⟨(i - b.Index - 1).toNat, by omega⟩
      rw [hk, idx_at (by omega), Int.toNat_natCast, getD_at (by omega)]
      rfl
    · rw [if_neg (by simpa using e2), if_neg (fun h => e2 h.2)]
  · rw [if_neg (by simpa using e1), if_neg (fun h => e1 h.1)]
    rfl
theorem wterm_eq {b : Api_Base} {l : List En} (h0 : 0 ≤ b.Index) (h1 : b.Index + l.length ≤ 1000000) (i : Int) : mementoref6_Log_Term ⟨b, l⟩ i = some (termS b l i) := rterm_eq h0 h1 i
theorem termS_ge {b : Api_Base} {l : List En} (he : ∀ x ∈ l, EOk x) {i : Int} (hi : b.Index < i) : i ≤ b.Index + l.length ∧ 0 ≤ termS b l i ∧ (∃ h : (i - b.Index - 1).toNat < l.length, termS b l i = (l[(i - b.Index - 1).toNat]).Term) ∨ b.Index + l.length < i ∧ termS b l i = -1 := by
  unfold termS
  rw [if_neg (by omega)]
  by_cases e2 : i ≤ b.Index + l.length
  · left
    have hk : (i - b.Index - 1).toNat < l.length := by omega
    rw [if_pos ⟨hi, e2⟩, getD_at hk]
    exact ⟨e2, (he _ (List.getElem_mem hk)).t0, hk, rfl⟩
  · right
    rw [if_neg (fun h => e2 h.2)]
    exact ⟨by omega, rfl⟩

/-- What an entry makes of the members. -/
def chg (c : List Int) (e : En) : List Int := if e.Kind = 2 then (if e.Data.getD 1 0 = 1 then ofS (c ++ [e.Data.getD 0 0]) else (ofS c).filter fun x => !(x == e.Data.getD 0 0)) else c
theorem chg_len {c : List Int} {e : En} (h : c.length ≤ 7) : (chg c e).length ≤ 7 := by
  unfold chg
  split
  · split
    · exact ofS_len _
    · exact Nat.le_trans (List.length_filter_le _ _) (ofS_len _)
  · exact h
theorem chgs_len {c : List Int} (h : c.length ≤ 7) : ∀ l : List En, (l.foldl chg c).length ≤ 7 := fun l => by
  induction l generalizing c with
  | nil => exact h
  | cons e l ih => exact ih (chg_len h)
/-- The members at an index. -/
def confS (b : Api_Base) (l : List En) (i : Int) : List Int := (l.take (i - b.Index).toNat).foldl chg b.Conf

theorem whas_eq {l : List Int} (hl : l.length ≤ 100000) (n : Int) : mementoref6_Has l n = some (decide (n ∈ l)) := by
  unfold mementoref6_Has
  obtain ⟨r, hr, hp⟩ := loop_exF (b := mementoref6_Has_L1 l n) (s := 0) (fun t => ∃ j : Nat, t = (j : Int) ∧ j ≤ l.length ∧ ∀ x ∈ l.take j, x ≠ n) (fun t => (l.length - t).toNat)
    (fun r => (r = Ctl.ret true ∧ n ∈ l) ∨ (r = Ctl.go () ∧ n ∉ l)) ⟨0, rfl, by omega, by simp⟩ (by simp; omega) (by
    rintro _ ⟨j, rfl, hj, hx⟩
    dsimp only [mementoref6_Has_L1]
    by_cases h : j < l.length
    · rw [if_pos (by simpa using h), idx_at h, Option.bind_some]
      by_cases e : l[j] = n
      · left
        rw [if_pos (by simpa using e)]
        exact ⟨_, rfl, .inl ⟨rfl, e ▸ List.getElem_mem h⟩⟩
      · right
        rw [if_neg (by simpa using e)]
        refine ⟨((j + 1 : Nat) : Int), by rw [wrap_nat (by omega)], ⟨j + 1, rfl, h, fun x hx2 => ?_⟩, by omega⟩
        rw [List.take_succ_eq_append_getElem h] at hx2
        rcases List.mem_append.1 hx2 with h | h
        · exact hx x h
        · simp at h; subst h; exact e
    · left
      have : j = l.length := by omega
      subst this
      rw [if_neg (by simp)]
      rw [List.take_length] at hx
      exact ⟨_, rfl, .inr ⟨rfl, fun h => hx n h rfl⟩⟩)
  rw [hr]
  rcases hp with ⟨rfl, h⟩ | ⟨rfl, h⟩
  · simp [kont, h]
  · simp [kont, h]
theorem wof_eq {l : List Int} (hl : l.length ≤ 100000) : mementoref6_Of l = some (ofS l) := by
  unfold mementoref6_Of
  rw [loop_eqF (s := (([] : List Int), 0)) (fun s => ∃ j : Nat, j ≤ 7 ∧ s = (([0, 1, 2, 3, 4, 5, 6].take j).filter (fun n => decide (n ∈ l)), (j : Int))) (fun s => 7 - s.2.toNat) (fun _ => ofS l) ⟨0, by omega, rfl⟩ (by simp)]
  · rfl
  rintro _ ⟨j, hj, rfl⟩
  simp only [mementoref6_Of_L1]
  by_cases h : j < 7
  · right
    have h7 : j < [(0 : Int), 1, 2, 3, 4, 5, 6].length := h
    have g : [(0 : Int), 1, 2, 3, 4, 5, 6][j] = (j : Int) := by
      have : ∀ j : Fin 7, [(0 : Int), 1, 2, 3, 4, 5, 6][j.1]'(j.2) = (j.1 : Int) := by decide
      exact this ⟨j, h⟩
    rw [if_pos (by simp; omega), whas_eq hl, Option.bind_some]
    have hln : (List.filter (fun n => decide (n ∈ l)) (List.take j [(0 : Int), 1, 2, 3, 4, 5, 6])).length ≤ 7 := Nat.le_trans (List.length_filter_le _ _) (by simp; omega)
    by_cases e : (j : Int) ∈ l
    · rw [if_pos (by simpa using e), app_of (by simp only [List.length_cons, List.length_nil]; omega) (by simp only [List.length_cons, List.length_nil]; omega)]
      refine ⟨_, rfl, ⟨j + 1, h, ?_⟩, by rw [wrap_nat (by omega)]; simp only [Int.toNat_natCast]; omega, trivial⟩
      rw [wrap_nat (by omega), List.take_succ_eq_append_getElem h7, List.filter_append, g]
      simp [e]
    · rw [if_neg (by simpa using e)]
      refine ⟨_, rfl, ⟨j + 1, h, ?_⟩, by rw [wrap_nat (by omega)]; simp only [Int.toNat_natCast]; omega, trivial⟩
      rw [wrap_nat (by omega), List.take_succ_eq_append_getElem h7, List.filter_append, g]
      simp [e]
  · left
    have : j = 7 := by omega
    subst this
    rw [if_neg (by simp)]
    rfl
theorem wwith_eq {l : List Int} (hl : l.length ≤ 1000) (n : Int) : mementoref6_With l n = some (ofS (l ++ [n])) := by
  unfold mementoref6_With
  rw [app_of (by simp; omega) (by simp; omega), Option.bind_some, app_of (by simp; omega) (by simp; omega), Option.bind_some, wof_eq (by simp; omega)]
  rfl
theorem ofS_without (l : List Int) (n : Int) : ofS (l.filter fun x => !(x == n)) = (ofS l).filter fun x => !(x == n) := by
  unfold ofS
  rw [List.filter_filter]
  apply List.filter_congr
  intro x _
  rw [Bool.eq_iff_iff]
  simp [and_comm]
theorem wwithout_eq {l : List Int} (hl : l.length ≤ 1000) (n : Int) : mementoref6_Without l n = some ((ofS l).filter fun x => !(x == n)) := by
  unfold mementoref6_Without
  rw [loop_eqF (s := (([] : List Int), 0)) (fun s => ∃ j : Nat, j ≤ l.length ∧ s = ((l.take j).filter (fun x => !(x == n)), (j : Int))) (fun s => l.length - s.2.toNat) (fun _ => l.filter fun x => !(x == n)) ⟨0, by omega, by simp⟩ (by simp; omega)]
  · rw [Option.bind_some, wof_eq (Nat.le_trans (List.length_filter_le _ _) (by omega)), Option.bind_some, ofS_without]
  rintro _ ⟨j, hj, rfl⟩
  simp only [mementoref6_Without_L1]
  by_cases h : j < l.length
  · right
    rw [if_pos (by simpa using h), idx_at h, Option.bind_some]
    have hln : (List.filter (fun x => !(x == n)) (List.take j l)).length ≤ 1000 := Nat.le_trans (List.length_filter_le _ _) (by simp; omega)
    by_cases e : l[j] = n
    · rw [if_neg (by simpa using e), Option.bind_some, wrap_nat (by omega)]
      refine ⟨_, rfl, ⟨j + 1, h, ?_⟩, by simp only [Int.toNat_natCast]; omega, trivial⟩
      rw [List.take_succ_eq_append_getElem h, List.filter_append]
      simp [e]
    · rw [if_pos (by simpa using e), app_of (by simp only [List.length_cons, List.length_nil]; omega) (by simp only [List.length_cons, List.length_nil]; omega), Option.bind_some, Option.bind_some, wrap_nat (by omega)]
      refine ⟨_, rfl, ⟨j + 1, h, ?_⟩, by simp only [Int.toNat_natCast]; omega, trivial⟩
      rw [List.take_succ_eq_append_getElem h, List.filter_append]
      simp [e]
  · left
    have : j = l.length := by omega
    subst this
    rw [if_neg (by simp)]
    simp [early]

theorem wchange_eq {c : List Int} {e : En} (hc : c.length ≤ 7) (he : EOk e) : mementoref6_change c e = some (chg c e) := by
  unfold mementoref6_change chg
  by_cases k : e.Kind = 2
  · obtain ⟨a, b, hd, h1, h2, h3, h4⟩ := he.c k
    rw [if_neg (by simp [k]), hd, if_pos k]
    have i0 : idx [a, b] 0 = some a := rfl
    have i1 : idx [a, b] 1 = some b := rfl
    have g0 : [a, b].getD 0 0 = a := rfl
    have g1 : [a, b].getD 1 0 = b := rfl
    rw [i0, i1, g0, g1]
    simp only [List.length_cons, List.length_nil, Option.bind_some, beq_iff_eq]
    rw [if_neg (by decide), wrap64 (by omega) (by omega), wwith_eq (by omega), wwithout_eq (by omega)]
    split <;> rfl
  · rw [if_pos (by simp [k]), if_neg k]
    rfl

theorem right_eq {e : En} (he : EOk e) (h0 : 0 < e.Index) (h1 : e.Index ≤ 1000000) (k : e.Kind = 2) : entry_Right e = some true := by
  obtain ⟨a, b, hd, g1, g2, g3, g4⟩ := he.c k
  have := he.t0
  have := he.t1
  have e1 : entry_time e.Index = some true := by unfold entry_time; rw [if_pos (by simp; omega)]; simp; omega
  have e2 : entry_time e.Term = some true := by unfold entry_time; rw [if_pos (by simp; omega)]; simp; omega
  unfold entry_Right
  rw [e1, e2, hd, k]
  have e3 : (e.Index == 0) = false := by rw [beq_eq_false_iff_ne]; omega
  have i0 : idx [a, b] 0 = some a := rfl
  have i1 : idx [a, b] 1 = some b := rfl
  rw [i0, i1]
  simp [e3, g2, g4]

theorem wconf_eq {b : Api_Base} {l : List En} (g : GOk b l) (i : Int) : mementoref6_Log_Conf ⟨b, l⟩ i = some (confS b l i) := by
  obtain ⟨i0, i1, cf, dt, ge, ix⟩ := g
  unfold mementoref6_Log_Conf
  rw [app_of (by simp; omega) (by simp; omega), Option.bind_some]
  rw [loop_eqF (fun s => ∃ j : Nat, j ≤ l.length ∧ j ≤ (i - b.Index).toNat ∧ s = ((l.take j).foldl chg b.Conf, (j : Int))) (fun s => l.length - s.2.toNat) (fun _ => confS b l i) ⟨0, by omega, by omega, by simp⟩ (by simp; omega)]
  · rfl
  rintro _ ⟨j, hj, hji, rfl⟩
  simp only [mementoref6_Log_Conf_L1]
  have e : (if decide ((j : Int) < (l.length : Int)) = true then (idx l (j : Int)).bind fun x => some (decide (x.Index ≤ i)) else some false) = some (decide (j < l.length ∧ b.Index + j + 1 ≤ i)) := by
    by_cases h : j < l.length
    · rw [if_pos (by simpa using h), idx_at h, Option.bind_some, ix j h]
      simp [h]
    · rw [if_neg (by simpa using h)]
      simp [h]
  rw [e, Option.bind_some]
  by_cases h : j < l.length ∧ b.Index + j + 1 ≤ i
  · right
    rw [if_pos (by simpa using h), idx_at h.1, Option.bind_some, wchange_eq (chgs_len cf _) (ge _ (List.getElem_mem h.1)), Option.bind_some, wrap_nat (by omega)]
    refine ⟨_, rfl, ⟨j + 1, h.1, by omega, ?_⟩, by simp only [Int.toNat_natCast]; omega, trivial⟩
    rw [List.take_succ_eq_append_getElem h.1, List.foldl_append]
    rfl
  · left
    rw [if_neg (by simpa using h)]
    have : l.take j = l.take (i - b.Index).toNat := by
      by_cases h2 : j < l.length
      · have : j = (i - b.Index).toNat := by omega
        rw [this]
      · rw [List.take_of_length_le (by omega), List.take_of_length_le (by omega)]
    unfold confS
    rw [this]
    rfl

theorem rconf_eq {b : Api_Base} {l : List En} (g : GOk b l) (i : Int) : rlog_tail_Conf ⟨b, l⟩ i = some (confS b l i) := by
  obtain ⟨i0, i1, cf, dt, ge, ix⟩ := g
  unfold rlog_tail_Conf
  rw [clone6 (by simp only; omega), Option.bind_some]
  rw [loop_eqF (fun s => ∃ j : Nat, j ≤ l.length ∧ s = ((l.take (min j (i - b.Index).toNat)).foldl chg b.Conf, (j : Int))) (fun s => l.length - s.2.toNat) (fun _ => confS b l i) ⟨0, by omega, by simp⟩ (by simp; omega)]
  · rfl
  rintro _ ⟨j, hj, rfl⟩
  simp only [rlog_tail_Conf_L1]
  by_cases h : j < l.length
  · right
    have hx := ix j h
    have ek := ge _ (List.getElem_mem h)
    have := chgs_len cf (l.take (min j (i - b.Index).toNat))
    rw [if_pos (by simpa using h), idx_at h, Option.bind_some, hx, wrap_nat (by omega)]
    by_cases e1 : b.Index + j + 1 ≤ i
    · have m1 : min j (i - b.Index).toNat = j := by omega
      have m2 : min (j + 1) (i - b.Index).toNat = j + 1 := by omega
      rw [if_neg (by simpa using e1)]
      by_cases k : l[j].Kind = 2
      · obtain ⟨a, c, hd, h1, h2, h3, h4⟩ := ek.c k
        have j0 : idx [a, c] 0 = some a := rfl
        have j1 : idx [a, c] 1 = some c := rfl
        rw [if_neg (by simp [k]), right_eq ek (by omega) (by omega) k, hd]
        simp only [Option.bind_some, Bool.not_true, Bool.false_eq_true, if_false, j0, j1, beq_iff_eq]
        rw [wrap64 (by omega) (by omega), with_eq (by omega), without_eq (by omega)]
        refine ⟨(chg (List.foldl chg b.Conf (List.take (min j (i - b.Index).toNat) l)) l[j], ((j + 1 : Nat) : Int)), ?_, ⟨j + 1, h, ?_⟩, by simp only [Int.toNat_natCast]; omega, trivial⟩
        · unfold chg
          rw [if_pos k, hd]
          have g0 : [a, c].getD 0 0 = a := rfl
          have g1 : [a, c].getD 1 0 = c := rfl
          rw [g0, g1]
          by_cases c1 : c = 1
          · rw [if_pos c1, if_pos c1]; rfl
          · rw [if_neg c1, if_neg c1]; rfl
        · rw [m2, m1, List.take_succ_eq_append_getElem h, List.foldl_append]
          rfl
      · rw [if_pos (by simp [k])]
        refine ⟨_, rfl, ⟨j + 1, h, ?_⟩, by simp only [Int.toNat_natCast]; omega, trivial⟩
        rw [m2, m1, List.take_succ_eq_append_getElem h, List.foldl_append]
        have : chg (List.foldl chg b.Conf (List.take j l)) l[j] = List.foldl chg b.Conf (List.take j l) := by unfold chg; rw [if_neg k]
        simp only [List.foldl_cons, List.foldl_nil, this]
    · rw [if_pos (by simp; omega)]
      refine ⟨_, rfl, ⟨j + 1, h, ?_⟩, by simp only [Int.toNat_natCast]; omega, trivial⟩
      rw [show min (j + 1) (i - b.Index).toNat = min j (i - b.Index).toNat by omega]
  · left
    have : j = l.length := by omega
    subst this
    rw [if_neg (by simp)]
    unfold confS
    have : l.take (min l.length (i - b.Index).toNat) = l.take (i - b.Index).toNat := by
      rw [List.take_eq_take_iff]; omega
    rw [this]
    rfl

/-- Entries from an index on. -/
def fromS (b : Api_Base) (l : List En) (i n : Int) : List En := (l.drop (i - b.Index - 1).toNat).take n.toNat
theorem rfrom_eq {b : Api_Base} {l : List En} (g : GOk b l) {i n : Int} (hi : -1000000 ≤ i) (hi2 : i ≤ 1000000) : rlog_tail_From ⟨b, l⟩ i n = some (fromS b l i n) := by
  obtain ⟨i0, i1, cf, dt, ge, ix⟩ := g
  unfold rlog_tail_From
  rw [rlast_eq i0 (by omega)]
  simp only [Option.bind_some]
  by_cases e1 : i > b.Index + l.length
  · rw [if_pos (by simpa using e1)]
    unfold fromS
    rw [List.drop_of_length_le (by omega)]
    simp
  rw [if_neg (by simpa using e1), Option.bind_some]
  by_cases e2 : n ≤ 0
  · rw [if_pos (by simpa using e2)]
    unfold fromS
    rw [show n.toNat = 0 by omega]
    simp
  rw [if_neg (by simpa using e2), wrap64 (n := b.Index + 1) (by omega) (by omega)]
  have hm : maxI i (b.Index + 1) - b.Index = ((i - b.Index - 1).toNat : Int) + 1 := by unfold maxI; split <;> omega
  rw [hm, wrap64 (n := ((i - b.Index - 1).toNat : Int) + 1) (by omega) (by omega), wrap64 (by omega) (by omega), show ((i - b.Index - 1).toNat : Int) + 1 - 1 = ((i - b.Index - 1).toNat : Int) by omega, slc_nat _ (by omega) (by omega), List.take_length, Option.bind_some]
  have hm2 : minI n ((l.drop (i - b.Index - 1).toNat).length : Int) = ((min n.toNat (l.drop (i - b.Index - 1).toNat).length : Nat) : Int) := by unfold minI; split <;> omega
  rw [hm2]
  have := slc_nat (l.drop (i - b.Index - 1).toNat) (a := 0) (b := min n.toNat (l.drop (i - b.Index - 1).toNat).length) (by omega) (by omega)
  rw [show (0 : Int) = ((0 : Nat) : Int) by rfl, this, Option.bind_some, List.drop_zero, all_eq]
  · unfold fromS
    rw [← List.take_take, List.take_length]
    rfl
  · simp; omega
  · exact fun x hx => (ge x (List.mem_of_mem_drop (List.mem_of_mem_take hx))).d

theorem wfrom_eq {b : Api_Base} {l : List En} (g : GOk b l) {i n : Int} : mementoref6_Log_From ⟨b, l⟩ i n = some (fromS b l i n) := by
  obtain ⟨i0, i1, cf, dt, ge, ix⟩ := g
  unfold mementoref6_Log_From
  rw [loop_eqF (s := (([] : List En), 0)) (fun s => ∃ j : Nat, j ≤ l.length ∧ s = (((l.take j).drop (i - b.Index - 1).toNat).take n.toNat, (j : Int))) (fun s => l.length - s.2.toNat) (fun _ => fromS b l i n) ⟨0, by omega, by simp⟩ (by simp; omega)]
  · rfl
  rintro _ ⟨j, hj, rfl⟩
  simp only [mementoref6_Log_From_L1]
  have hlen : (((l.take j).drop (i - b.Index - 1).toNat).take n.toNat).length = min n.toNat (j - (i - b.Index - 1).toNat) := by rw [List.length_take, List.length_drop, List.length_take]; omega
  by_cases h : j < l.length
  · rw [if_pos (by simpa using h), Option.bind_some, hlen]
    by_cases e : ((min n.toNat (j - (i - b.Index - 1).toNat) : Nat) : Int) < n
    · right
      rw [if_pos (by simpa using e), idx_at h, Option.bind_some, ix j h, wrap_nat (by omega)]
      by_cases e2 : b.Index + j + 1 ≥ i
      · rw [if_pos (by simpa using e2), app_of (by rw [hlen]; simp only [List.length_cons, List.length_nil]; omega) (by rw [hlen]; simp only [List.length_cons, List.length_nil]; omega)]
        refine ⟨_, rfl, ⟨j + 1, h, ?_⟩, by simp only [Int.toNat_natCast]; omega, trivial⟩
        rw [List.take_succ_eq_append_getElem h, List.drop_append_of_le_length (by rw [List.length_take]; omega)]
        congr 1
        rw [List.take_of_length_le (l := List.drop _ (List.take j l)) (by rw [List.length_drop, List.length_take]; omega), List.take_of_length_le (l := List.drop _ (List.take j l) ++ [l[j]]) (by rw [List.length_append, List.length_drop, List.length_take]; simp only [List.length_cons, List.length_nil]; omega)]
      · rw [if_neg (by simpa using e2)]
        refine ⟨_, rfl, ⟨j + 1, h, ?_⟩, by simp only [Int.toNat_natCast]; omega, trivial⟩
        rw [List.drop_of_length_le (by rw [List.length_take]; omega), List.drop_of_length_le (by rw [List.length_take]; omega)]
    · left
      rw [if_neg (by simpa using e)]
      have : ((l.take j).drop (i - b.Index - 1).toNat).take n.toNat = fromS b l i n := by
        unfold fromS
        by_cases n0 : n.toNat = 0
        · rw [n0]; simp
        · have : (l.take j).drop (i - b.Index - 1).toNat = (l.drop (i - b.Index - 1).toNat).take (j - (i - b.Index - 1).toNat) := by rw [List.drop_take]
          rw [this, List.take_take, show min n.toNat (j - (i - b.Index - 1).toNat) = n.toNat by omega]
      rw [this]
      rfl
  · left
    have : j = l.length := by omega
    subst this
    rw [if_neg (by simp)]
    unfold fromS
    simp [early]

end Go.Proofs.Ytbjleolchcajkaa.Am
