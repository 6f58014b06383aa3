/- Versions of a block: what the functions are, as lists. -/
import Derived.Test.YtjckcocakjaaeaaO0
import Derived.Test.YtjckcocakjaaeaaS13
import Derived.KernelRfl
namespace Go.Proofs.Ytjckcocakjaaeaa.Am
open Go
set_option linter.unusedVariables false

abbrev Vs := List Api_Version
def Srt (l : Vs) : Prop := l.Pairwise fun a b => a.Seq < b.Seq
def Sml (l : Vs) : Prop := l.length ≤ 1000 ∧ ∀ v ∈ l, v.Data.length ≤ 1000000
/-- How many versions are at most at a time. -/
def cnt13 (l : Vs) (t : Int) : Nat := (l.takeWhile fun v => decide (v.Seq ≤ t)).length

theorem cnt13_le (l : Vs) (t : Int) : cnt13 l t ≤ l.length := by unfold cnt13; exact (List.takeWhile_prefix _).length_le
theorem cnt13_get {l : Vs} (hs : Srt l) (t : Int) : ∀ {k : Nat} (h : k < l.length), (l[k].Seq > t ↔ cnt13 l t ≤ k) := by
  induction l with
  | nil => intro k h; simp at h
  | cons v l ih =>
    intro k h
    have h1 := List.pairwise_cons.1 hs
    unfold cnt13
    by_cases hv : v.Seq ≤ t
    · rw [List.takeWhile_cons_of_pos (by simpa using hv)]
      cases k with
      | zero => simp; omega
      | succ k => have := ih h1.2 (k := k) (by simpa using h); unfold cnt13 at this; simp; omega
    · rw [List.takeWhile_cons_of_neg (by simpa using hv)]
      simp
      cases k with
      | zero => simp; omega
      | succ k => have hk : k < l.length := by simpa using h
                  have := h1.1 l[k] (List.getElem_mem _); simp; omega

theorem search_eq {n c : Nat} {f : Int → Option Bool} (hc : c ≤ n) (hn : n ≤ 1000000) (hf : ∀ k : Nat, k < n → f (k : Int) = some (decide (c ≤ k))) : sort_Search (n : Int) f = some (c : Int) := by
  unfold sort_Search
  rw [loop_eqF (s := (0, (n : Int))) (fun s => ∃ i j : Nat, s = ((i : Int), (j : Int)) ∧ i ≤ c ∧ c ≤ j ∧ j ≤ n) (fun s => (s.2 - s.1).toNat) (fun _ => (c : Int)) ⟨0, n, rfl, by omega, hc, by omega⟩ (by simp; omega)]
  · rfl
  rintro _ ⟨i, j, rfl, h1, h2, h3⟩
  simp only [sort_Search_L1]
  by_cases hij : i < j
  · right
    have e1 : IntKind.wrap .i64 ((i : Int) + j) = ((i + j : Nat) : Int) := by rw [wrap64 (by omega) (by omega)]; omega
    have e2 : IntKind.wrap .i64 (shrI (IntKind.wrap .u64 ((i + j : Nat) : Int)) 1) = (((i + j) / 2 : Nat) : Int) := by
      rw [wrap64u (by omega) (by omega)]
      unfold shrI
      rw [wrap64 (by omega) (by omega)]; omega
    rw [e1, e2, if_pos (by simpa using hij), hf _ (by omega)]
    simp only [Option.bind_some]
    by_cases hm : c ≤ (i + j) / 2
    · refine ⟨((i : Int), (((i + j) / 2 : Nat) : Int)), by simp [hm], ⟨i, (i + j) / 2, rfl, h1, hm, by omega⟩, by simp only; omega, by first | trivial | rfl⟩
    · refine ⟨((((i + j) / 2 + 1 : Nat) : Int), (j : Int)), ?_, ⟨(i + j) / 2 + 1, j, rfl, by omega, h2, h3⟩, by simp only; omega, by first | trivial | rfl⟩
      simp only [hm, decide_false, Bool.not_false, if_true, Option.some.injEq, Ctl.go.injEq, Prod.mk.injEq, and_true]
      rw [wrap64 (by omega) (by omega)]; omega
  · left
    rw [if_neg (by simpa using hij)]
    have : i = c := by omega
    rw [this]; rfl

theorem behind_eq {l : Vs} (hs : Srt l) (hl : l.length ≤ 1000) (t : Int) : hist_behind l t = some (cnt13 l t : Int) := by
  unfold hist_behind
  rw [search_eq (cnt13_le l t) (by omega)]
  · rfl
  intro k hk
  unfold hist_behind_1
  rw [idx_at hk]
  simp only [Option.bind_some, Option.some.injEq, decide_eq_decide]
  exact cnt13_get hs t hk

theorem clone_b {b : List Int} (h : b.length ≤ 1000000) : slices_Clone_Lbyte_byte b = some b := by
  unfold slices_Clone_Lbyte_byte; rw [app_of (by simp; omega) (by simp; omega)]; rfl
theorem clone_v {l : Vs} (h : l.length ≤ 1000) : slices_Clone_Lapi_Version_api_Version l = some l := by
  unfold slices_Clone_Lapi_Version_api_Version; rw [app_of (by simp; omega) (by simp; omega)]; rfl

theorem copied_eq {l : Vs} (h : Sml l) : hist_copied l = some l := by
  unfold hist_copied
  rw [clone_v h.1]
  simp only [Option.bind_some]
  rw [loop_eqF (s := (0, l)) (fun s => ∃ i : Nat, s = ((i : Int), l) ∧ i ≤ l.length) (fun s => (l.length - s.1).toNat) (fun _ => l) ⟨0, rfl, by omega⟩ (by simp; have := h.1; omega)]
  · rfl
  rintro _ ⟨i, rfl, hi⟩
  simp only [hist_copied_L1]
  by_cases hil : i < l.length
  · right
    rw [if_pos (by simpa using hil), idx_at hil]
    simp only [Option.bind_some]
    rw [clone_b (h.2 _ (List.getElem_mem _))]
    simp only [Option.bind_some]
    rw [updL_nat hil]
    refine ⟨(((i + 1 : Nat) : Int), l), ?_, ⟨i + 1, rfl, hil⟩, by simp only; omega, by first | trivial | rfl⟩
    simp only [Option.bind_some, Option.some.injEq, Ctl.go.injEq, Prod.mk.injEq]
    have := h.1
    exact ⟨by rw [wrap64 (by omega) (by omega)]; omega, List.set_getElem_self hil⟩
  · left
    rw [if_neg (by simpa using hil)]; rfl

/-- The data at a time. -/
def at13 (l : Vs) (t : Int) : List Int × Bool := if cnt13 l t = 0 then ([], false) else ((l[cnt13 l t - 1]?.map (·.Data)).getD [], true)

theorem at_eq {l : Vs} (hs : Srt l) (h : Sml l) (t : Int) : hist_At l t = some (at13 l t) := by
  unfold hist_At at13
  rw [behind_eq hs h.1]
  simp only [Option.bind_some]
  have hc := cnt13_le l t
  have hl := h.1
  by_cases h0 : cnt13 l t = 0
  · rw [if_pos (by simp [h0]), if_pos h0]
  · have e1 : IntKind.wrap .i64 ((cnt13 l t : Int) - 1) = ((cnt13 l t - 1 : Nat) : Int) := by rw [wrap64 (by omega) (by omega)]; omega
    have hlt : cnt13 l t - 1 < l.length := by omega
    rw [if_neg (by simpa using h0), if_neg h0, e1, idx_at hlt]
    simp only [Option.bind_some]
    rw [clone_b (h.2 _ (List.getElem_mem _)), List.getElem?_eq_getElem hlt]
    rfl

theorem refAt_eq {l : Vs} (hs : Srt l) (h : Sml l) (t : Int) : mementoref13_At l t = some (at13 l t) := by
  unfold mementoref13_At
  have hl := h.1
  have hc := cnt13_le l t
  have main : ∀ i : Nat, i ≤ l.length → cnt13 l t ≤ i → kont (loopN (mementoref13_At_L1 l t) fuel ((i : Int) - 1)) (fun () => some (([] : List Int), false)) = some (at13 l t) := by
    intro i hi hci
    rw [loop_eqF (fun s => ∃ i : Nat, s = (i : Int) - 1 ∧ i ≤ l.length ∧ cnt13 l t ≤ i) (fun s => (s + 1).toNat) (fun _ => if cnt13 l t = 0 then .go () else .ret (at13 l t)) ⟨i, rfl, hi, hci⟩ (by simp; omega)]
    · by_cases h0 : cnt13 l t = 0
      · simp [h0, kont, at13]
      · simp [h0, kont]
    rintro _ ⟨i, rfl, h1, h2⟩
    simp only [mementoref13_At_L1]
    cases i with
    | zero => left; have : cnt13 l t = 0 := by omega
              simp [this, early]
    | succ i =>
      have e : ((i + 1 : Nat) : Int) - 1 = (i : Int) := by omega
      have hlt : i < l.length := by omega
      rw [e, if_pos (by simp), idx_at hlt]
      simp only [Option.bind_some]
      have hg := cnt13_get hs t hlt
      by_cases hle : l[i].Seq ≤ t
      · left
        have hci : cnt13 l t = i + 1 := by omega
        rw [if_pos (by simpa using hle), if_neg (by omega)]
        simp only [early, Option.map_some, at13, hci, if_neg (show ¬ i + 1 = 0 by omega), Nat.add_sub_cancel, List.getElem?_eq_getElem hlt, Option.getD_some]
      · right
        rw [if_neg (by simpa using hle)]
        exact ⟨(i : Int) - 1, by rw [wrap64 (by omega) (by omega)], ⟨i, rfl, by omega, by omega⟩, by omega, by first | trivial | rfl⟩
  have := main l.length (Nat.le_refl _) hc
  rw [wrap64 (by omega) (by omega)]
  exact this

/-- May a version be added? -/
def may13 (l : Vs) (seq : Int) : Bool := decide (seq < 1) || decide (seq > 1099511627776) || (match l.getLast? with | some v => decide (seq ≤ v.Seq) | none => false)
def add13 (l : Vs) (seq : Int) (d : List Int) : Vs := if may13 l seq then l else l ++ [⟨seq, d⟩]

theorem guard13 (l : Vs) (hl : l.length ≤ 1000) (seq : Int) : (if (decide (seq < 1)) then (some true) else (if (decide (seq > 1099511627776)) then (some true) else (if (decide ((l.length : Int) > 0)) then ((idx l (IntKind.wrap .i64 ((l.length : Int) - 1))).bind fun x => (some (decide (seq ≤ x.Seq)))) else (some false)))) = some (may13 l seq) := by
  unfold may13
  by_cases h1 : seq < 1
  · simp [h1]
  · by_cases h2 : seq > 1099511627776
    · simp [h2]
    · simp only [h1, h2, decide_false, Bool.false_eq_true, if_false, Bool.false_or]
      cases hl0 : l.getLast? with
      | none => have := List.getLast?_eq_none_iff.1 hl0; simp [this]
      | some v =>
        have hne : l ≠ [] := fun e => by rw [e] at hl0; cases hl0
        have hpos := List.length_pos_iff.2 hne
        rw [if_pos (by simp; omega)]
        have e1 : IntKind.wrap .i64 ((l.length : Int) - 1) = ((l.length - 1 : Nat) : Int) := by rw [wrap64 (by omega) (by omega)]; omega
        rw [e1, idx_nat]
        rw [List.getLast?_eq_getElem?] at hl0
        rw [hl0]; rfl

theorem add_eq {l : Vs} (h : Sml l) {d : List Int} (hd : d.length ≤ 1000000) (seq : Int) : hist_Add l seq d = some (add13 l seq d) := by
  unfold hist_Add add13
  rw [copied_eq h]
  simp only [Option.bind_some]
  rw [guard13 l h.1]
  simp only [Option.bind_some]
  have := h.1
  cases may13 l seq
  · rw [if_neg (by simp), clone_b hd]
    simp only [Option.bind_some]
    rw [app_of (by simp; omega) (by simp; omega)]
    rfl
  · rfl
theorem refAdd_eq {l : Vs} (h : Sml l) {d : List Int} (hd : d.length ≤ 1000000) (seq : Int) : mementoref13_Add l seq d = some (add13 l seq d) := by
  unfold mementoref13_Add add13
  rw [guard13 l h.1]
  simp only [Option.bind_some]
  have := h.1
  cases may13 l seq
  · rw [if_neg (by simp), app_of (by simp; omega) (by simp; omega)]
    simp only [Option.bind_some, List.nil_append]
    rw [app_of (by simp; omega) (by simp; omega)]
    simp only [Option.bind_some, List.nil_append]
    rw [app_of (by simp; omega) (by simp; omega)]
    rfl
  · rfl

/-- What a floor's state needs. -/
def prune13 (l : Vs) (f : Int) : Vs := l.drop (cnt13 l f - 1)

theorem prune_eq {l : Vs} (hs : Srt l) (h : Sml l) (f : Int) : hist_Prune l f = some (prune13 l f) := by
  unfold hist_Prune prune13
  rw [behind_eq hs h.1]
  simp only [Option.bind_some]
  have hc := cnt13_le l f
  have hl := h.1
  have e1 : maxI (IntKind.wrap .i64 ((cnt13 l f : Int) - 1)) 0 = ((cnt13 l f - 1 : Nat) : Int) := by
    rw [wrap64 (by omega) (by omega)]
    unfold maxI
    split <;> omega
  rw [e1, slc_nat l (by omega) (Nat.le_refl _)]
  simp only [Option.bind_some, List.take_length]
  rw [copied_eq ⟨by simp; omega, fun v hv => h.2 v (List.mem_of_mem_drop hv)⟩]
  rfl

theorem refPrune_eq {l : Vs} (hs : Srt l) (h : Sml l) (f : Int) : mementoref13_Prune l f = some (prune13 l f) := by
  unfold mementoref13_Prune
  have hl := h.1
  have hc := cnt13_le l f
  rw [loop_eqF (s := ([], 0)) (fun s => ∃ i : Nat, s = ((l.take i).drop (cnt13 l f - 1), (i : Int)) ∧ i ≤ l.length) (fun s => (l.length - s.2).toNat) (fun _ => prune13 l f) ⟨0, by simp, by omega⟩ (by simp; omega)]
  · rfl
  rintro _ ⟨i, rfl, hi⟩
  simp only [mementoref13_Prune_L1]
  by_cases hil : i < l.length
  · right
    have e1 : IntKind.wrap .i64 ((i : Int) + 1) = ((i + 1 : Nat) : Int) := by rw [wrap64 (by omega) (by omega)]; omega
    rw [if_pos (by simpa using hil), e1]
    have hcond : (if (decide (((i + 1 : Nat) : Int) ≥ (l.length : Int))) then (some true) else ((idx l ((i + 1 : Nat) : Int)).bind fun x => (some (decide (x.Seq > f))))) = some (decide (cnt13 l f - 1 ≤ i)) := by
      by_cases h1 : i + 1 < l.length
      · rw [if_neg (by simp; omega), idx_at h1]
        simp only [Option.bind_some, Option.some.injEq, decide_eq_decide]
        rw [cnt13_get hs f h1]; omega
      · rw [if_pos (by simp; omega)]
        have : cnt13 l f - 1 ≤ i := by omega
        simp [this]
    rw [hcond]
    simp only [Option.bind_some]
    refine ⟨((l.take (i + 1)).drop (cnt13 l f - 1), ((i + 1 : Nat) : Int)), ?_, ⟨i + 1, rfl, hil⟩, by simp only; omega, by first | trivial | rfl⟩
    by_cases hd : cnt13 l f - 1 ≤ i
    · simp only [hd, decide_true, if_true]
      rw [idx_at hil]
      simp only [Option.bind_some]
      rw [app_of (by simp; omega) (by simp; omega)]
      simp only [Option.bind_some, Option.some.injEq, Ctl.go.injEq, Prod.mk.injEq, and_true]
      rw [List.take_succ_eq_append_getElem hil, List.drop_append_of_le_length (by simp; omega)]
    · simp only [hd, decide_false, Bool.false_eq_true, if_false, Option.bind_some, Option.some.injEq, Ctl.go.injEq, Prod.mk.injEq, and_true]
      rw [List.drop_eq_nil_of_le (by simp; omega), List.drop_eq_nil_of_le (by simp; omega)]
  · left
    have : i = l.length := by omega
    subst this
    rw [if_neg (by simp)]
    simp [early, prune13]

def changed13 (l : Vs) (a b : Int) : Bool := decide (cnt13 l b > cnt13 l a)
theorem changed_eq {l : Vs} (hs : Srt l) (h : Sml l) (a b : Int) : hist_Changed l a b = some (changed13 l a b) := by
  unfold hist_Changed changed13
  rw [behind_eq hs h.1, behind_eq hs h.1]
  simp
theorem refChanged_eq {l : Vs} (hs : Srt l) (h : Sml l) (a b : Int) : mementoref13_Changed l a b = some (changed13 l a b) := by
  unfold mementoref13_Changed
  have hl := h.1
  have hc := cnt13_le l a
  have hc2 := cnt13_le l b
  have main : kont (loopN (mementoref13_Changed_L1 l a b) fuel ((0 : Nat) : Int)) (fun () => some false) = some (changed13 l a b) := by
    rw [loop_eqF (fun s => ∃ i : Nat, s = (i : Int) ∧ i ≤ l.length ∧ (cnt13 l a < cnt13 l b → i ≤ cnt13 l a)) (fun s => (l.length - s).toNat) (fun _ => if changed13 l a b then .ret true else .go ()) ⟨0, rfl, by omega, by omega⟩ (by simp; omega)]
    · cases changed13 l a b <;> rfl
    rintro _ ⟨i, rfl, hi, hx⟩
    simp only [mementoref13_Changed_L1]
    by_cases hil : i < l.length
    · rw [if_pos (by simpa using hil), idx_at hil]
      simp only [Option.bind_some]
      have g1 := cnt13_get hs a hil
      have g2 := cnt13_get hs b hil
      have e1 : (if (decide (l[i].Seq > a)) then (some (decide (l[i].Seq ≤ b))) else (some false)) = some (decide (cnt13 l a ≤ i ∧ i < cnt13 l b)) := by
        by_cases ha : l[i].Seq > a
        · rw [if_pos (by simpa using ha)]
          simp only [Option.some.injEq, decide_eq_decide]
          constructor
          · intro hb; exact ⟨g1.1 ha, by omega⟩
          · rintro ⟨_, hb⟩; omega
        · rw [if_neg (by simpa using ha)]
          simp only [Option.some.injEq]
          symm
          simp only [decide_eq_false_iff_not, not_and]
          intro hb; omega
      rw [e1]
      simp only [Option.bind_some]
      by_cases hq : cnt13 l a ≤ i ∧ i < cnt13 l b
      · left
        have : changed13 l a b = true := by unfold changed13; simp; omega
        simp [hq, this, early]
      · right
        refine ⟨((i + 1 : Nat) : Int), ?_, ⟨i + 1, rfl, hil, fun hlt => ?_⟩, by omega, by first | trivial | rfl⟩
        · simp only [hq, decide_false, Bool.false_eq_true, if_false, Option.some.injEq, Ctl.go.injEq]
          rw [wrap64 (by omega) (by omega)]; omega
        · have := hx hlt
          rcases Nat.lt_or_ge i (cnt13 l a) with h1 | h1
          · omega
          · exact absurd ⟨h1, by omega⟩ hq
    · left
      have : changed13 l a b = false := by unfold changed13; simp; omega
      rw [if_neg (by simpa using hil)]
      simp [this, early]
  exact main

/-- May versions be? -/
def ok13 (l : Vs) (k : Nat) : Bool := match l[k]? with
  | some v => !(decide (v.Seq < 1) || decide (v.Seq > 1099511627776) || (decide (0 < k) && (match l[k - 1]? with | some u => decide (v.Seq ≤ u.Seq) | none => false)))
  | none => true
def right13 (l : Vs) : Bool := (List.range l.length).all (ok13 l)

theorem right_step {l : Vs} (hl : l.length ≤ 1000) {i : Nat} (hil : i < l.length) : (if (decide (l[i].Seq < 1)) then (some true) else (if (decide (l[i].Seq > 1099511627776)) then (some true) else (if (decide ((i : Int) > 0)) then ((idx l (IntKind.wrap .i64 ((i : Int) - 1))).bind fun x21 => (some (decide (l[i].Seq ≤ x21.Seq)))) else (some false)))) = some (!ok13 l i) := by
  unfold ok13
  rw [List.getElem?_eq_getElem hil]
  by_cases h1 : l[i].Seq < 1
  · simp [h1]
  · by_cases h2 : l[i].Seq > 1099511627776
    · simp [h2]
    · simp only [h1, h2, decide_false, Bool.false_eq_true, if_false, Bool.false_or, Bool.not_not]
      by_cases h0 : 0 < i
      · have hlt : i - 1 < l.length := by omega
        have e1 : IntKind.wrap .i64 ((i : Int) - 1) = ((i - 1 : Nat) : Int) := by rw [wrap64 (by omega) (by omega)]; omega
        rw [if_pos (by simpa using h0), e1, idx_at hlt, List.getElem?_eq_getElem hlt]
        simp [h0]
      · simp [h0]

theorem all_drop (n i : Nat) (f : Nat → Bool) (h : i < n) : ((List.range n).drop i).all f = (f i && ((List.range n).drop (i + 1)).all f) := by
  rw [List.drop_eq_getElem_cons (by simpa using h)]
  simp

theorem hright_eq {l : Vs} (hl : l.length ≤ 1000) : hist_Right l = some (right13 l) := by
  unfold hist_Right
  have main : kont (loopN (hist_Right_L1 l) fuel ((0 : Nat) : Int)) (fun () => some true) = some (right13 l) := by
    rw [loop_eqF (fun s => ∃ i : Nat, s = (i : Int) ∧ i ≤ l.length) (fun s => (l.length - s).toNat) (fun s => if ((List.range l.length).drop s.toNat).all (ok13 l) then .go () else .ret false) ⟨0, rfl, by omega⟩ (by simp; omega)]
    · have e : ((List.range l.length).drop (((0 : Nat) : Int).toNat)).all (ok13 l) = right13 l := by simp [right13]
      rw [e]
      cases right13 l <;> rfl
    rintro _ ⟨i, rfl, hi⟩
    simp only [hist_Right_L1]
    by_cases hil : i < l.length
    · rw [if_pos (by simpa using hil), idx_at hil]
      simp only [Option.bind_some]
      rw [right_step hl hil]
      simp only [Option.bind_some, Int.toNat_natCast, all_drop _ _ _ hil]
      cases hk : ok13 l i
      · left; simp [early]
      · right
        refine ⟨((i + 1 : Nat) : Int), ?_, ⟨i + 1, rfl, hil⟩, by omega, by simp⟩
        simp only [Bool.not_true, Bool.false_eq_true, if_false, Option.some.injEq, Ctl.go.injEq]
        rw [wrap64 (by omega) (by omega)]; omega
    · left
      rw [if_neg (by simpa using hil)]
      have : i = l.length := by omega
      subst this
      rw [List.drop_eq_nil_of_le (by simp)]
      simp [early]
  exact main
theorem refRight_eq (l : Vs) : mementoref13_HistRight l = hist_Right l := by
  unfold mementoref13_HistRight hist_Right
  have : mementoref13_HistRight_L1 l = hist_Right_L1 l := by
    funext i
    unfold mementoref13_HistRight_L1 hist_Right_L1
    simp only [Option.bind_assoc]
  rw [this]

theorem same_eq {l : Vs} (hl : l.length ≤ 1000) : mementoref13_SameHist l l = some true := by
  unfold mementoref13_SameHist
  rw [if_neg (by simp)]
  have main : kont (loopN (mementoref13_SameHist_L1 l l) fuel ((0 : Nat) : Int)) (fun () => some true) = some true := by
    rw [loop_eqF (fun s => ∃ i : Nat, s = (i : Int) ∧ i ≤ l.length) (fun s => (l.length - s).toNat) (fun _ => .go ()) ⟨0, rfl, by omega⟩ (by simp; omega)]
    · rfl
    rintro _ ⟨i, rfl, hi⟩
    simp only [mementoref13_SameHist_L1]
    by_cases hil : i < l.length
    · right
      rw [if_pos (by simpa using hil), idx_at hil]
      refine ⟨((i + 1 : Nat) : Int), ?_, ⟨i + 1, rfl, hil⟩, by omega, by first | trivial | rfl⟩
      simp only [Option.bind_some, bne_self_eq_false, Bool.false_eq_true, if_false, Option.some.injEq, Ctl.go.injEq]
      rw [wrap64 (by omega) (by omega)]; omega
    · left
      rw [if_neg (by simpa using hil)]; rfl
  exact main

theorem known13 : mementolaw13_known = some true := by kernel_rfl

end Go.Proofs.Ytjckcocakjaaeaa.Am
