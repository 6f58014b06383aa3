/- What is committed: the document's count and the code's are one; what the law of it says. -/
import Derived.Test.YteoalgkckhijlaaL7c
namespace Go.Proofs.Yteoalgkckhijlaa.Am
open Go
set_option linter.unusedVariables false
set_option linter.unusedSimpArgs false

theorem next7 {i : Nat} (h : i < 1000000) : IntKind.wrap .i64 ((i : Int) + 1) = ((i + 1 : Nat) : Int) := by rw [wrap64 (by omega) (by omega)]; omega
def cnt7 (a : Int) (l : List Int) : Nat := (l.filter fun x => decide (a ≤ x)).length
theorem cnt7_le (a : Int) (l : List Int) : cnt7 a l ≤ l.length := List.length_filter_le _ _
theorem cnt7_snoc {a : Int} {l : List Int} {k : Nat} (h : k < l.length) : cnt7 a (l.take (k + 1)) = cnt7 a (l.take k) + if l[k] ≥ a then 1 else 0 := by
  unfold cnt7
  rw [List.take_succ_eq_append_getElem h, List.filter_append, List.length_append]
  congr 1
  by_cases e : a ≤ l[k]
  · rw [if_pos e]; simp [e]
  · rw [if_neg e]; simp [e]

theorem count7 {b : Int × Int → Option (Ctl Int (Int × Int))} {l : List Int} {a : Int} (hl : l.length ≤ 1000)
    (hb : ∀ n k, b (n, k) = if decide (k < (l.length : Int)) then (((idx l k).bind fun x => (if (decide (x ≥ a)) then (some (IntKind.wrap .i64 (n + 1))) else (some n))).bind fun n' => (some (.go (n', (IntKind.wrap .i64 (k + 1)))))) else (early (some n))) :
    loopN b fuel (0, 0) = some ((cnt7 a l : Nat) : Int) := by
  refine loop_eqF (s := (0, 0)) (fun s => ∃ k : Nat, k ≤ l.length ∧ s = (((cnt7 a (l.take k) : Nat) : Int), (k : Int))) (fun s => l.length - s.2.toNat) (fun _ => ((cnt7 a l : Nat) : Int)) ⟨0, by omega, by simp [cnt7]⟩ (by simp; omega) ?_
  rintro _ ⟨k, hk, rfl⟩
  rw [hb]
  by_cases h : k < l.length
  · right
    rw [if_pos (by simpa using h), idx_at h, Option.bind_some]
    have e : (if (decide (l[k] ≥ a)) then (some (IntKind.wrap .i64 (((cnt7 a (l.take k) : Nat) : Int) + 1))) else (some ((cnt7 a (l.take k) : Nat) : Int))) = some ((cnt7 a (l.take (k + 1)) : Nat) : Int) := by
      have hc := cnt7_le a (l.take k)
      rw [List.length_take] at hc
      rw [cnt7_snoc h]
      by_cases e : l[k] ≥ a
      · rw [if_pos (by simpa using e), if_pos e, next7 (by omega)]
      · rw [if_neg (by simpa using e), if_neg e]; rfl
    rw [e, Option.bind_some, next7 (by omega)]
    exact ⟨_, rfl, ⟨k + 1, h, rfl⟩, by simp only [Int.toNat_natCast]; omega, rfl⟩
  · left
    have : k = l.length := by omega
    subst this
    rw [if_neg (by simp), List.take_length]
    rfl

theorem upto_len {α : Type} (f : Nat → α) (k : Nat) : (upto f k).length = k := by simp [upto]
theorem upto_get {α : Type} (f : Nat → α) {k i : Nat} (h : i < k) : (upto f k)[i]'(by rw [upto_len]; exact h) = f i := by simp [upto]

theorem cmtC_nil (term commit : Int) : cmtC term commit [] = fun _ => false := by
  funext p; simp [cmtC]
theorem cmtF_none {commit : Int} {ts : List Int} : cmtF commit ts (fun _ => false) = commit := by
  unfold cmtF
  rw [List.find?_eq_none.2 (fun x _ => by simp)]
theorem commit7 {term commit : Int} {mt ts : List Int} (h1 : mt.length ≤ 12) (h2 : ts.length ≤ 1000000) : elect_Commit term commit mt ts = some (cmtF commit ts (cmtC term commit mt)) := by
  unfold elect_Commit
  rw [if_pos ⟨h1, h2⟩]
  by_cases h : mt = []
  · subst h; rw [if_pos rfl, cmtC_nil, cmtF_none]
  · rw [if_neg h]

theorem refCommit7 {term commit : Int} {mt ts : List Int} (h1 : mt.length ≤ 12) (h2 : ts.length ≤ 1000) : mementoref6_Commit term commit mt ts = some (cmtF commit ts (cmtC term commit mt)) := by
  unfold mementoref6_Commit
  have hl : IntKind.wrap .i64 ((ts.length : Int) - 1) = (ts.length : Int) - 1 - ((0 : Nat) : Int) := by rw [wrap64 (by omega) (by omega)]; simp
  have hR : ∀ k, (upto (bk ts.length ts) ts.length).drop k = if h : k < ts.length then bk ts.length ts k :: (upto (bk ts.length ts) ts.length).drop (k + 1) else [] := fun k => by
    split
    · rename_i h
      rw [List.drop_eq_getElem_cons (by rw [upto_len]; exact h), upto_get _ h]
    · rename_i h
      exact List.drop_eq_nil_of_le (by rw [upto_len]; omega)
  obtain ⟨R, hRd⟩ : ∃ R : Nat → Ctl Int Unit, R = fun k => match ((upto (bk ts.length ts) ts.length).drop k).find? (cmtC term commit mt) with | some p => .ret (cmtAt commit p.1) | none => .go () := ⟨_, rfl⟩
  rw [hl, loop_eqF (s := (ts.length : Int) - 1 - ((0 : Nat) : Int)) (fun s => ∃ k : Nat, k ≤ ts.length ∧ s = (ts.length : Int) - 1 - (k : Int)) (fun s => (s + 1).toNat) (fun s => R ((ts.length : Int) - 1 - s).toNat) ⟨0, by omega, rfl⟩ (by omega)]
  · have : ((ts.length : Int) - 1 - ((ts.length : Int) - 1 - ((0 : Nat) : Int))).toNat = 0 := by omega
    rw [this, hRd]
    simp only [List.drop_zero]
    unfold cmtF
    generalize (upto (bk ts.length ts) ts.length).find? (cmtC term commit mt) = o
    cases o <;> rfl
  rintro _ ⟨k, hk, rfl⟩
  have ek : ((ts.length : Int) - 1 - ((ts.length : Int) - 1 - (k : Int))).toNat = k := by omega
  simp only [mementoref6_Commit_L1]
  by_cases h : k < ts.length
  · have hi : (ts.length : Int) - 1 - (k : Int) = ((ts.length - 1 - k : Nat) : Int) := by omega
    have hlt : ts.length - 1 - k < ts.length := by omega
    have ht : bk ts.length ts k = (((ts.length - 1 - k : Nat) : Int), ts[ts.length - 1 - k]) := by unfold bk; rw [hi, List.getElem?_eq_getElem hlt]; rfl
    rw [if_pos (by simp; omega), count7 (l := mt) (a := cmtAt commit (((ts.length - 1 - k : Nat) : Int))) (by omega) (fun n k' => by rw [hi]; rfl), Option.bind_some, hi, idx_at hlt, Option.bind_some]
    have hc := cnt7_le (cmtAt commit (((ts.length - 1 - k : Nat) : Int))) mt
    have e : (if (ts[ts.length - 1 - k] == term) then (some (decide ((IntKind.wrap .i64 (2 * ((cnt7 (cmtAt commit (((ts.length - 1 - k : Nat) : Int))) mt : Nat) : Int))) > (mt.length : Int)))) else (some false)) = some (cmtC term commit mt (bk ts.length ts k)) := by
      rw [wrap64 (by omega) (by omega), ht]
      unfold cmtC
      by_cases e1 : ts[ts.length - 1 - k] = term
      · rw [if_pos (by simpa using e1)]
        simp only [e1, decide_true, Bool.true_and]
        unfold cnt7
        congr 1
        rw [decide_eq_decide]
        omega
      · rw [if_neg (by simpa using e1)]
        simp [e1]
    rw [e, Option.bind_some]
    rw [← hi, ek]
    by_cases ec : cmtC term commit mt (bk ts.length ts k) = true
    · left
      rw [if_pos ec, hRd]
      simp only
      rw [hR, dif_pos h, List.find?_cons_of_pos ec, ht, ← hi]
      rfl
    · right
      rw [if_neg ec]
      refine ⟨_, rfl, ⟨k + 1, h, by rw [wrap64 (by omega) (by omega)]; omega⟩, by rw [wrap64 (by omega) (by omega)]; omega, ?_⟩
      rw [wrap64 (by omega) (by omega), show ((ts.length : Int) - 1 - ((ts.length : Int) - 1 - (k : Int) - 1)).toNat = k + 1 by omega, hRd]
      simp only
      rw [hR k, dif_pos h, List.find?_cons_of_neg ec]
  · left
    rw [if_neg (by simp; omega), ek, hRd]
    simp only
    rw [hR, dif_neg h]
    rfl

theorem map7 {b : List Int × Int → Option (Ctl (List Int) (List Int × Int))} {l : List Int} {g : Int → Int} (hl : l.length ≤ 1000)
    (hb : ∀ m k, b (m, k) = if decide (k < (l.length : Int)) then ((idx l k).bind fun x => ((app 8 m ([g x] : List Int)).bind fun m' => (some (.go (m', (IntKind.wrap .i64 (k + 1))))))) else (early (some m))) :
    loopN b fuel (([] : List Int), 0) = some (l.map g) := by
  refine loop_eqF (s := (([] : List Int), 0)) (fun s => ∃ k : Nat, k ≤ l.length ∧ s = ((l.take k).map g, (k : Int))) (fun s => l.length - s.2.toNat) (fun _ => l.map g) ⟨0, by omega, by simp⟩ (by simp; omega) ?_
  rintro _ ⟨k, hk, rfl⟩
  rw [hb]
  by_cases h : k < l.length
  · right
    rw [if_pos (by simpa using h), idx_at h, Option.bind_some, app_of (by simp; omega) (by simp; omega), Option.bind_some, next7 (by omega)]
    refine ⟨_, rfl, ⟨k + 1, h, ?_⟩, by simp only [Int.toNat_natCast]; omega, rfl⟩
    rw [List.take_succ_eq_append_getElem h, List.map_append]; rfl
  · left
    have : k = l.length := by omega
    subst this
    rw [if_neg (by simp), List.take_length]
    rfl

theorem electTells_eq {a0 a1 a2 a3 a4 a5 a6 : Int} {a7 a8 : List Int} {a9 : Int} : mementolaw7_ElectTells a0 a1 a2 a3 a4 a5 a6 a7 a8 a9 = some true := by
  unfold mementolaw7_ElectTells
  rw [known7]
  simp only [Option.bind_some, Bool.not_true, Bool.false_eq_true, if_false, refNewer7, refTimeout7]
  by_cases h7 : (a7.length : Int) > 10
  · rw [if_pos (by simpa using h7)]; rfl
  rw [if_neg (by simpa using h7)]
  by_cases h8 : (a8.length : Int) > 20
  · rw [if_pos (by simpa using h8)]; rfl
  rw [if_neg (by simpa using h8)]
  by_cases h6 : a6 > 1099511627776
  · rw [if_pos (by simpa using h6)]; rfl
  rw [if_neg (by simpa using h6)]
  by_cases h6' : a6 < -1099511627776
  · simp only [h6', decide_true, Option.bind_some, if_true]
  simp only [h6', decide_false, Option.bind_some, Bool.false_eq_true, if_false]
  rw [map7 (l := a7) (g := fun x => IntKind.wrap .i64 (a6 + Go.bits .and .i64 x 7)) (by omega) (fun _ _ => rfl), Option.bind_some, map7 (l := a8) (g := fun x => Go.bits .and .i64 x 3) (by omega) (fun _ _ => rfl), Option.bind_some]
  have hp : ∀ n, ∃ y, elect_part n = some y := fun n => ⟨_, rfl⟩
  have ht : ∀ n t, ∃ y, elect_Timeout n t = some y := fun n t => ⟨_, rfl⟩
  obtain ⟨y0, e0⟩ := ht a0 a1
  obtain ⟨y1, e1⟩ := ht (IntKind.wrap .i64 (Int.tmod a9 7)) (IntKind.wrap .i64 a9)
  rw [e0, e1, newer7, newer7, commit7 (by omega) (by omega), refCommit7 (by omega) (by omega), commit7 (by simp; omega) (by simp; omega), refCommit7 (by simp; omega) (by simp; omega)]
  simp

/-! how far most have it -/
theorem find7 {f : Nat → Int × Int} (c : Int × Int → Bool) : ∀ k, ((upto f k).find? c = none ∧ ∀ i, i < k → c (f i) = false) ∨ ∃ i, i < k ∧ (upto f k).find? c = some (f i) ∧ c (f i) = true ∧ ∀ j, j < i → c (f j) = false
  | 0 => .inl ⟨rfl, fun i h => absurd h (Nat.not_lt_zero _)⟩
  | k + 1 => by
    have e : upto f (k + 1) = upto f k ++ [f k] := by simp [upto, List.range_succ]
    rw [e, List.find?_append]
    rcases find7 c k with ⟨h1, h2⟩ | ⟨i, h1, h2, h3, h4⟩
    · cases hc : c (f k) with
      | true => exact .inr ⟨k, by omega, by rw [h1]; simp [hc], hc, h2⟩
      | false =>
        refine .inl ⟨by rw [h1]; simp [hc], fun i hi => ?_⟩
        rcases Nat.lt_or_ge i k with h | h
        · exact h2 i h
        · rw [show i = k by omega]; exact hc
    · exact .inr ⟨i, by omega, by rw [h2]; rfl, h3, h4⟩

/-- May it count: most have it, and it is of the term. -/
def may7 (term : Int) (commit : Nat) (mt ts : List Int) (j : Nat) : Bool := cmtC term commit mt ((j : Int), ts[j]?.getD 0)
theorem cmt7_spec {term : Int} {commit : Nat} {mt ts : List Int} (hc : commit ≤ 100000) (ht : ts.length ≤ 1000) :
    ∃ J : Nat, cmtF (commit : Int) ts (cmtC term commit mt) = ((commit + J : Nat) : Int) ∧ J ≤ ts.length ∧ (∀ j, J ≤ j → j < ts.length → may7 term commit mt ts j = false) ∧ (0 < J → may7 term commit mt ts (J - 1) = true) := by
  have hb : ∀ i, i < ts.length → bk ts.length ts i = (((ts.length - 1 - i : Nat) : Int), ts[ts.length - 1 - i]?.getD 0) := fun i hi => by
    unfold bk; rw [show (ts.length : Int) - 1 - (i : Int) = ((ts.length - 1 - i : Nat) : Int) by omega]
  unfold cmtF
  rcases find7 (f := bk ts.length ts) (cmtC term commit mt) ts.length with ⟨h1, h2⟩ | ⟨i, h1, h2, h3, h4⟩
  · refine ⟨0, by rw [h1]; simp, by omega, fun j _ hj => ?_, fun h => by omega⟩
    have := h2 (ts.length - 1 - j) (by omega)
    rw [hb _ (by omega), show ts.length - 1 - (ts.length - 1 - j) = j by omega] at this
    exact this
  · refine ⟨ts.length - i, ?_, by omega, fun j h hj => ?_, fun _ => ?_⟩
    · rw [h2]
      simp only [hb i h1, cmtAt]
      rw [wrap64 (n := (commit : Int) + 1) (by omega) (by omega), wrap64 (by omega) (by omega)]
      omega
    · have := h4 (ts.length - 1 - j) (by omega)
      rw [hb _ (by omega), show ts.length - 1 - (ts.length - 1 - j) = j by omega] at this
      exact this
    · rw [hb _ h1] at h3
      unfold may7
      rw [show ts.length - i - 1 = ts.length - 1 - i by omega]
      exact h3

theorem electCommits_eq {a0 a1 : Int} {a2 a3 : List Int} (h0 : Ik .u8 a0) (h1 : Ik .u16 a1) (h2 : ∀ x ∈ a2, Ik .u8 x) (h3 : ∀ x ∈ a3, Ik .u8 x) : mementolaw7_ElectCommits a0 a1 a2 a3 = some true := by
  unfold mementolaw7_ElectCommits
  rw [known7]
  simp only [Option.bind_some, Bool.not_true, Bool.false_eq_true, if_false]
  by_cases h7 : (a2.length : Int) > 7
  · rw [if_pos (by simpa using h7)]; rfl
  rw [if_neg (by simpa using h7)]
  by_cases h8 : (a3.length : Int) > 20
  · simp only [h8, decide_true, Option.bind_some, if_true]
  simp only [h8, decide_false, Option.bind_some, Bool.false_eq_true, if_false]
  rw [map7 (l := a2) (g := fun x => IntKind.wrap .i64 ((IntKind.wrap .i64 a1) + (IntKind.wrap .i64 (Int.tmod x 24)))) (by omega) (fun _ _ => rfl), Option.bind_some, map7 (l := a3) (g := fun x => IntKind.wrap .i64 (Int.tmod x 4)) (by omega) (fun _ _ => rfl), Option.bind_some]
  have hmt : (a2.map fun x => IntKind.wrap .i64 ((IntKind.wrap .i64 a1) + (IntKind.wrap .i64 (Int.tmod x 24)))).length ≤ 7 := by rw [List.length_map]; omega
  have hts : (a3.map fun x => IntKind.wrap .i64 (Int.tmod x 4)).length ≤ 20 := by rw [List.length_map]; omega
  generalize (a2.map fun x => IntKind.wrap .i64 ((IntKind.wrap .i64 a1) + (IntKind.wrap .i64 (Int.tmod x 24)))) = mt at hmt ⊢
  generalize (a3.map fun x => IntKind.wrap .i64 (Int.tmod x 4)) = ts at hts ⊢
  have hu : 0 ≤ a1 ∧ a1 < 65536 := by have := h1; unfold Ik at this; revert this; simp [IntKind.min, IntKind.max, IntKind.signed, IntKind.bits]; omega
  obtain ⟨c, rfl⟩ : ∃ c : Nat, a1 = (c : Int) := ⟨a1.toNat, by omega⟩
  rw [wrap64 (n := (c : Int)) (by omega) (by omega)]
  generalize hterm : IntKind.wrap .i64 (Int.tmod a0 4) = term
  obtain ⟨J, e1, e2, e3, e4⟩ := cmt7_spec (term := term) (commit := c) (mt := mt) (ts := ts) (by omega) (by omega)
  rw [commit7 (by omega) (by omega), e1, Option.bind_some, wrap64 (n := (c : Int) + (ts.length : Int)) (by omega) (by omega), if_neg (by simp; omega)]
  have hd : decide (((c + J : Nat) : Int) > (c : Int) + (ts.length : Int)) = false := decide_eq_false (by omega)
  simp only [hd, Option.bind_some, Bool.false_eq_true, if_false]
  rw [wrap64 (n := (c : Int) + 1) (by omega) (by omega)]
  rw [loop_eqF (s := (c : Int) + 1) (fun s => ∃ j : Nat, j ≤ ts.length ∧ s = (c : Int) + 1 + (j : Int)) (fun s => ((c : Int) + 1 + ts.length - s).toNat) (fun _ => .go ()) ⟨0, by omega, by simp⟩ (by omega)]
  · rfl
  rintro _ ⟨j, hj, rfl⟩
  simp only [mementolaw7_ElectCommits_L3]
  rw [wrap64 (n := (c : Int)) (by omega) (by omega), wrap64 (n := (c : Int) + (ts.length : Int)) (by omega) (by omega), hterm]
  by_cases h : j < ts.length
  · right
    rw [if_pos (by simp; omega), count7 (l := mt) (a := (c : Int) + 1 + (j : Int)) (by omega) (fun _ _ => rfl), Option.bind_some]
    have hc := cnt7_le ((c : Int) + 1 + (j : Int)) mt
    have em : (if (decide ((IntKind.wrap .i64 (2 * ((cnt7 ((c : Int) + 1 + (j : Int)) mt : Nat) : Int))) > (mt.length : Int))) then ((idx ts (IntKind.wrap .i64 ((IntKind.wrap .i64 ((c : Int) + 1 + (j : Int) - (c : Int))) - 1))).bind fun x164 => (some (x164 == term))) else (some false)) = some (may7 term c mt ts j) := by
      rw [wrap64 (n := (c : Int) + 1 + (j : Int) - (c : Int)) (by omega) (by omega), wrap64 (n := (c : Int) + 1 + (j : Int) - (c : Int) - 1) (by omega) (by omega), wrap64 (by omega) (by omega), show (c : Int) + 1 + (j : Int) - (c : Int) - 1 = (j : Int) by omega, idx_at h]
      unfold may7 cmtC cmtAt
      rw [wrap64 (n := (c : Int) + 1) (by omega) (by omega), wrap64 (n := (c : Int) + 1 + (j : Int)) (by omega) (by omega), List.getElem?_eq_getElem h]
      simp only [Option.getD_some, Option.bind_some]
      unfold cnt7
      by_cases e : mt.length < 2 * (mt.filter fun x => decide ((c : Int) + 1 + (j : Int) ≤ x)).length
      · rw [if_pos (by simp only [decide_eq_true_eq]; omega)]; simp [e]; rfl
      · rw [if_neg (by simp only [decide_eq_true_eq]; omega)]; simp [e]
    rw [em, Option.bind_some]
    have e5 : (if (decide ((c : Int) + 1 + (j : Int) > ((c + J : Nat) : Int))) then (if may7 term c mt ts j then (some true) else (if ((c : Int) + 1 + (j : Int) == ((c + J : Nat) : Int)) then (some (!may7 term c mt ts j)) else (some false))) else (if ((c : Int) + 1 + (j : Int) == ((c + J : Nat) : Int)) then (some (!may7 term c mt ts j)) else (some false))) = some false := by
      by_cases g : J ≤ j
      · rw [if_pos (by simp; omega), e3 j g h, if_neg (by simp), if_neg (by simp; omega)]
      · rw [if_neg (by simp; omega)]
        by_cases g2 : J = j + 1
        · have := e4 (by omega)
          rw [show J - 1 = j by omega] at this
          rw [if_pos (by simp; omega), this]; rfl
        · rw [if_neg (by simp; omega)]
    rw [e5, Option.bind_some, if_neg (by simp)]
    refine ⟨_, rfl, ⟨j + 1, h, by rw [wrap64 (by omega) (by omega)]; omega⟩, by rw [wrap64 (by omega) (by omega)]; omega, trivial⟩
  · left
    rw [if_neg (by simp; omega)]
    rfl
end Go.Proofs.Yteoalgkckhijlaa.Am
