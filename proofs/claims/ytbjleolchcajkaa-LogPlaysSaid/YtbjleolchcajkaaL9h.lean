/- Any story of a log. -/
import Derived.Test.YtbjleolchcajkaaL9g
namespace Go.Proofs.Ytbjleolchcajkaa.Am
open Go
set_option linter.unusedVariables false
set_option linter.unusedSimpArgs false

def TOk (b : Api_Base) : Prop := 0 ≤ b.Term ∧ b.Term ≤ 1000000
theorem termS_le {b : Api_Base} {l : List En} (t : TOk b) (he : ∀ x ∈ l, EOk x) (i : Int) : -1 ≤ termS b l i ∧ termS b l i ≤ 1000000 := by
  unfold termS
  obtain ⟨t0, t1⟩ := t
  split
  · omega
  · split
    · rename_i h
      have hk : (i - b.Index - 1).toNat < l.length := by omega
      rw [getD_at hk]
      have := he _ (List.getElem_mem hk)
      have h0 := this.t0
      have h1 := this.t1
      omega
    · omega

theorem base_eq {b : Api_Base} {l : List En} (g : GOk b l) : rlog_tail_Base ⟨b, l⟩ = some b := by
  unfold rlog_tail_Base
  rw [under_eq g.dt (by have := g.cf; omega)]; rfl

theorem alike_eq {b : Api_Base} {l : List En} (g : GOk b l) (hb : b.Index + l.length ≤ 1000) (n : Int) : mementolaw9_alike ⟨⟨b, l⟩⟩ ⟨b, l⟩ n = some true := by
  have i0 := g.i0
  have cf := g.cf
  unfold mementolaw9_alike
  rw [rlast_eq i0 (by omega), Option.bind_some, wlast_eq i0 (by omega), Option.bind_some, if_neg (by simp), base_eq g, Option.bind_some, sameBase_eq (by omega), Option.bind_some, if_neg (by simp), rfrom_eq g (by omega) (by omega), Option.bind_some]
  have hf : fromS b l 0 1000 = l := by
    unfold fromS
    rw [show (0 - b.Index - 1).toNat = 0 by omega, List.drop_zero, List.take_of_length_le (by omega)]
  rw [hf, sameEntries_eq (by omega)]
  simp only [Option.bind_some, Bool.not_true, Bool.false_eq_true, if_false]
  refine kont_to (s := ()) ?_ rfl
  rw [wrap64 (n := b.Index - 2) (by omega) (by omega)]
  rw [loop_eqF (s := b.Index - 2) (fun s => b.Index - 2 ≤ s ∧ s ≤ b.Index + l.length + 3) (fun s => (b.Index + (l.length : Int) + 3 - s).toNat) (fun _ => .go ()) ⟨by omega, by omega⟩ (by omega)]
  rintro t ⟨t0, t1⟩
  simp only [mementolaw9_alike_L1]
  rw [wlast_eq i0 (by omega), Option.bind_some, wrap64 (n := b.Index + (l.length : Int) + 2) (by omega) (by omega)]
  by_cases h : t ≤ b.Index + l.length + 2
  · right
    have hl : (fromS b l t n).length ≤ l.length := by unfold fromS; rw [List.length_take, List.length_drop]; omega
    have := chgs_len cf (l.take (t - b.Index).toNat)
    rw [if_pos (by simpa using h), rterm_eq i0 (by omega), Option.bind_some, wterm_eq i0 (by omega), Option.bind_some, if_neg (by simp), rconf_eq g, Option.bind_some, wconf_eq g, Option.bind_some, same_refl (by unfold confS; omega), Option.bind_some, if_neg (by simp), rfrom_eq g (by omega) (by omega), Option.bind_some, wfrom_eq g, Option.bind_some, sameEntries_eq (by omega)]
    simp only [Option.bind_some, Bool.not_true, Bool.false_eq_true, if_false]
    rw [wrap64 (n := t + 1) (by omega) (by omega)]
    exact ⟨_, rfl, ⟨by omega, by omega⟩, by omega, by first | trivial | rfl⟩
  · left
    rw [if_neg (by simpa using h)]
    rfl

theorem radd_eq {b : Api_Base} {l : List En} (g : GOk b l) {term kind : Int} {d : List Int} (hd : d.length ≤ 100000) : rlog_Log_Add ⟨⟨b, l⟩⟩ term kind d = some (⟨b.Index + l.length + 1, term, kind, d⟩, ⟨⟨b, l ++ [⟨b.Index + l.length + 1, term, kind, d⟩]⟩⟩) := by
  have i0 := g.i0
  have i1 := g.i1
  unfold rlog_Log_Add
  simp only
  rw [rlast_eq i0 (by omega), Option.bind_some, cloneB hd, Option.bind_some, wrap64 (n := b.Index + (l.length : Int) + 1) (by omega) (by omega), app_of (by simp; omega) (by simp; omega), Option.bind_some, copied_eq (by simpa using hd), Option.bind_some]
theorem wadd_eq {b : Api_Base} {l : List En} (g : GOk b l) {term kind : Int} {d : List Int} (hd : d.length ≤ 100000) : mementoref6_Log_Add ⟨b, l⟩ term kind d = some (⟨b.Index + l.length + 1, term, kind, d⟩, ⟨b, l ++ [⟨b.Index + l.length + 1, term, kind, d⟩]⟩) := by
  have i0 := g.i0
  have i1 := g.i1
  unfold mementoref6_Log_Add
  rw [wlast_eq i0 (by omega), Option.bind_some, app_of (by simp; omega) (by simp; omega), Option.bind_some]
  simp only [List.nil_append]
  rw [wrap64 (n := b.Index + (l.length : Int) + 1) (by omega) (by omega), app_of (by simp; omega) (by simp; omega), Option.bind_some, List.nil_append, app_of (by simp; omega) (by simp; omega), Option.bind_some]

theorem add_ok {b : Api_Base} {l : List En} (g : GOk b l) (hb : b.Index + l.length ≤ 9000) {e : En} (he : EOk e) (hi : e.Index = b.Index + l.length + 1) : GOk b (l ++ [e]) where
  i0 := g.i0
  i1 := by simp; omega
  cf := g.cf
  dt := g.dt
  e x hx := by
    rcases List.mem_append.1 hx with hx | hx
    · exact g.e x hx
    · simp at hx; subst hx; exact he
  ix k hk := by
    by_cases h : k < l.length
    · rw [List.getElem_append_left h]; exact g.ix k h
    · simp only [List.length_append, List.length_cons, List.length_nil] at hk
      rw [List.getElem_append_right (by omega)]
      simp only [List.getElem_singleton]
      rw [hi]; omega

abbrev PSt := Int × Api_Base × List En × Api_Base × List En
def plI (n : Nat) (s : PSt) : Prop := ∃ (j : Nat) (b : Api_Base) (l : List En), s = ((j : Int), b, l, b, l) ∧ j ≤ n ∧ GOk b l ∧ TOk b ∧ b.Index + l.length ≤ 40 + 20 * j
def plPost (r : Ctl Bool (Api_Base × List En × Api_Base × List En)) : Prop := r = .ret true ∨ ∃ x, r = .go x
def plM (n : Nat) (s : PSt) : Nat := ((n : Int) - s.1).toNat
def plStep (n : Nat) (s : PSt) (o : Option (Ctl (Ctl Bool (Api_Base × List En × Api_Base × List En)) PSt)) : Prop :=
  (∃ t, o = some (.ret t) ∧ plPost t) ∨ ∃ s', o = some (.go s') ∧ plI n s' ∧ plM n s' < plM n s
def plQ (j : Nat) (s : Api_Base × List En × Api_Base × List En) : Prop := ∃ b l, s = (b, l, b, l) ∧ GOk b l ∧ TOk b ∧ b.Index + l.length ≤ 40 + 20 * (j + 1 : Nat)
theorem kont_ex {E S : Type} {c : Option (Ctl E S)} {f : S → Option E} {P : S → Prop} {Q : Option E → Prop} (h : ∃ s, c = some (.go s) ∧ P s) (h2 : ∀ s, P s → Q (f s)) : Q (kont c f) := by
  obtain ⟨s, rfl, p⟩ := h
  exact h2 s p

theorem pl2_eq {b : Api_Base} {l : List En} (g : GOk b l) (t : TOk b) (x : Mementolaw9_Act) (y : List En) {m : List En} (hm : m.length ≤ 1000) (hy : y.length = m.length) (he : ∀ z ∈ m, EOk z) {fr : Int} (hix : ∀ k (h : k < m.length), m[k].Index = fr + k) :
    ∃ m', loopN (mementolaw9_LogPlays_L2 b l x y) fuel (0, m) = some m' ∧ m'.length = m.length ∧ (∀ z ∈ m', EOk z) ∧ ∀ k (h : k < m'.length), m'[k].Index = fr + k := by
  have i0 := g.i0
  have i1 := g.i1
  exact loop_QF (b := mementolaw9_LogPlays_L2 b l x y) (s := (0, m)) (fun s : Int × List En => ∃ (j : Nat) (m' : List En), s = ((j : Int), m') ∧ j ≤ m.length ∧ m'.length = m.length ∧ (∀ z ∈ m', EOk z) ∧ ∀ k (h : k < m'.length), m'[k].Index = fr + k) (fun s => ((m.length : Int) - s.1).toNat)
    (fun m' : List En => m'.length = m.length ∧ (∀ z ∈ m', EOk z) ∧ ∀ k (h : k < m'.length), m'[k].Index = fr + k) ⟨0, m, rfl, by omega, rfl, he, hix⟩ (by simp only; omega) (by
    rintro _ ⟨j, m', rfl, hj, hl, hok, hi⟩
    dsimp only [mementolaw9_LogPlays_L2]
    by_cases h : j < m.length
    · right
      rw [if_pos (by simp; omega), idx_at (by omega), Option.bind_some, wterm_eq i0 (by omega), Option.bind_some]
      have hz := hok _ (List.getElem_mem (show j < m'.length by omega))
      generalize hcond : (if decide (termS b l (m'[j]'(by omega)).Index ≥ 0) = true then if decide (Int.tmod x.C 3 > 0) = true then some (decide ((j : Int) < IntKind.wrap .i64 (Int.tmod x.C 5))) else some false else some false) = cnd
      have hc : ∃ c, cnd = some c ∧ (c = true → 0 ≤ termS b l (m'[j]'(by omega)).Index) := by
        rw [← hcond]
        by_cases q : termS b l (m'[j]'(by omega)).Index ≥ 0
        · rw [if_pos (by simpa using q)]
          split
          · exact ⟨_, rfl, fun _ => q⟩
          · exact ⟨_, rfl, fun _ => q⟩
        · rw [if_neg (by simpa using q)]
          exact ⟨_, rfl, fun h => by cases h⟩
      obtain ⟨c, rfl, hc⟩ := hc
      rw [Option.bind_some, wrap64 (n := (j : Int) + 1) (by omega) (by omega)]
      cases c with
      | false =>
        refine ⟨_, rfl, ⟨j + 1, m', rfl, h, hl, hok, hi⟩, by simp only; omega⟩
      | true =>
        rw [if_pos rfl, updL_nat (by omega), Option.bind_some]
        refine ⟨_, rfl, ⟨j + 1, _, rfl, h, by simpa using hl, ?_, ?_⟩, by simp only; omega⟩
        · intro z hz2
          rcases List.mem_or_eq_of_mem_set hz2 with hz2 | rfl
          · exact hok z hz2
          · exact ⟨hc rfl, (termS_le t g.e _).2, hz.d, hz.c⟩
        · intro k hk
          rw [List.getElem_set]
          split
          · rename_i e; subst e; exact hi _ _
          · exact hi k _
    · left
      rw [if_neg (by simp; omega)]
      exact ⟨_, rfl, hl, hok, hi⟩)

theorem wnat_mod {n : Int} {m : Nat} (h : Ik .u8 n) (hm : 0 < m) (hm2 : m ≤ 100000) : ∃ k : Nat, k < m ∧ remI (IntKind.wrap .i64 n) (m : Int) = some (k : Int) := by
  have := h.u8
  rw [wrap64 (by omega) (by omega)]
  unfold remI
  rw [if_neg (by omega), Int.tmod_eq_emod_of_nonneg this.1]
  have h1 := Int.emod_nonneg n (show (m : Int) ≠ 0 by omega)
  have h2 := Int.emod_lt_of_pos n (show (0 : Int) < (m : Int) by omega)
  exact ⟨(n % (m : Int)).toNat, by omega, by congr 1; omega⟩

theorem plays_step {a2 : List Mementolaw9_Act} (hn : a2.length ≤ 30) (h2 : ∀ x ∈ a2, Ik .u8 x.What ∧ Ik .u8 x.A ∧ Ik .u8 x.B ∧ Ik .u8 x.C ∧ ∀ y ∈ x.L, Ik .u8 y) (s : PSt) (hI : plI a2.length s) : plStep a2.length s (mementolaw9_LogPlays_L1 a2 s) := by
  obtain ⟨j, b, l, rfl, hj, g, t, hb⟩ := hI
  dsimp only [mementolaw9_LogPlays_L1]
  by_cases h : j < a2.length
  rotate_left
  · left
    rw [if_neg (by simpa using h)]
    exact ⟨_, rfl, .inr ⟨_, rfl⟩⟩
  rw [if_pos (by simpa using h), idx_at h, Option.bind_some]
  obtain ⟨hw, ha, hB, hC, hL⟩ := h2 _ (List.getElem_mem h)
  generalize a2[j] = x at *
  by_cases hl6 : x.L.length > 6
  · left
    rw [if_pos (by simp; omega)]
    exact ⟨_, rfl, .inl rfl⟩
  rw [if_neg (by simp; omega)]
  have i0 := g.i0
  have i1 := g.i1
  have wu := hw.u8
  have au := ha.u8
  have bu := hB.u8
  have cu := hC.u8
  have tu := t
  unfold TOk at tu
  refine kont_ex (P := plQ j) (Q := plStep a2.length ((j : Int), b, l, b, l)) ?_ ?_
  rotate_left
  · rintro _ ⟨b', l', rfl, g', t', hb'⟩
    dsimp only
    rw [alike_eq g' (by omega), Option.bind_some, if_neg (by simp), wrap64 (n := (j : Int) + 1) (by omega) (by omega)]
    exact .inr ⟨_, rfl, ⟨j + 1, b', l', rfl, h, g', t', hb'⟩, by unfold plM; simp only; omega⟩
  have hw8 : 0 ≤ Int.tmod x.What 8 ∧ Int.tmod x.What 8 < 8 := by rw [Int.tmod_eq_emod_of_nonneg wu.1]; omega
  generalize Int.tmod x.What 8 = w at *
  have e1 : (if (w == 0) = true then some (w == 0) else if (w == 1) = true then some (w == 1) else if (w == 2) = true then some (w == 2) else some (w == 3)) = some (decide (w < 4)) := by
    rcases (show w = 0 ∨ w = 1 ∨ w = 2 ∨ w = 3 ∨ w = 4 ∨ w = 5 ∨ w = 6 ∨ w = 7 by omega) with rfl | rfl | rfl | rfl | rfl | rfl | rfl | rfl <;> rfl
  rw [e1, Option.bind_some]
  by_cases w4 : w < 4
  · rw [if_pos (by simpa using w4), wrap64 (n := (l.length : Int) + 4) (by omega) (by omega)]
    obtain ⟨o, ho, hr⟩ := wnat_mod (m := l.length + 4) ha (by omega) (by omega)
    rw [show ((l.length + 4 : Nat) : Int) = (l.length : Int) + 4 by omega] at hr
    rw [hr, Option.bind_some, wrap64 (n := b.Index - 2) (by omega) (by omega), wrap64 (n := b.Index - 2 + (o : Int)) (by omega) (by omega)]
    generalize hpv : maxI (b.Index - 2 + (o : Int)) 0 = pv
    have hp0 : 0 ≤ pv ∧ pv ≤ b.Index + l.length + 1 := by rw [← hpv]; unfold maxI; split <;> omega
    have ht1 := termS_le t g.e pv
    rw [wterm_eq i0 (by omega), Option.bind_some, wrap64 (n := pv + 1) (by omega) (by omega)]
    have hmx : 0 ≤ maxI (termS b l pv) 0 ∧ maxI (termS b l pv) 0 ≤ 1000000 := by unfold maxI; split <;> omega
    generalize maxI (termS b l pv) 0 = mx at *
    obtain ⟨tm, htm, htm0⟩ : ∃ tm, IntKind.wrap .i64 (mx + IntKind.wrap .i64 (Int.tdiv (IntKind.wrap .i64 (Int.tmod x.B 6)) 5)) = tm ∧ 0 ≤ tm := by
      rw [Int.tmod_eq_emod_of_nonneg bu.1, wrap64 (n := x.B % 6) (by omega) (by omega), Int.tdiv_eq_ediv_of_nonneg (by omega), wrap64 (n := x.B % 6 / 5) (by omega) (by omega), wrap64 (by omega) (by omega)]
      exact ⟨_, rfl, by omega⟩
    have htm' : IntKind.wrap .i64 (mx + IntKind.wrap .i64 (Int.tdiv (Int.tmod x.B 6) 5)) = tm := by
      have : IntKind.wrap .i64 (Int.tmod x.B 6) = Int.tmod x.B 6 := by rw [Int.tmod_eq_emod_of_nonneg bu.1, wrap64 (by omega) (by omega)]
      rw [this] at htm; exact htm
    simp only [htm]
    obtain ⟨m, hm, hml, hme, hmi⟩ := entries_eq (fr := pv + 1) (l := x.L) (by omega) (by omega) (by omega) hL
    rw [hm, Option.bind_some]
    obtain ⟨m', hm', hml', hme', hmi'⟩ := pl2_eq g t x m (m := m) (by omega) rfl hme (fr := pv + 1) hmi
    rw [hm', Option.bind_some]
    by_cases hok : pv < b.Index ∨ b.Index ≤ pv ∧ pv ≤ b.Index + l.length ∧ termS b l pv = tm
    · generalize hp : (if pv < b.Index then b.Index else pv) = p
      generalize hes : m'.drop (b.Index - pv).toNat = es
      have hpb : b.Index ≤ p ∧ p ≤ b.Index + l.length := by rw [← hp]; split <;> omega
      have hesl : es.length ≤ 6 := by rw [← hes, List.length_drop]; omega
      have hese : ∀ z ∈ es, EOk z := fun z hz => hme' z (by rw [← hes] at hz; exact List.mem_of_mem_drop hz)
      have hesi : ∀ k (h : k < es.length), es[k].Index = p + k + 1 := by
        intro k hk
        subst hes
        rw [List.length_drop] at hk
        rw [List.getElem_drop, hmi' _ (by omega), ← hp]
        split <;> omega
      rw [rfollow_eq g hme' (by omega) hp0.1 hok hp.symm hes.symm, Option.bind_some, wfollow_eq g hme' (by omega) hp0.1 hok hp.symm hes.symm, Option.bind_some]
      have hfl := foL_len g.e hese hpb.1 hpb.2
      simp only [bne_self_eq_false, Bool.false_eq_true, if_false]
      rw [sameEntries_eq (by rw [List.length_drop]; omega), Option.bind_some]
      refine ⟨_, rfl, b, _, rfl, foL_ok g hese hpb.1 hpb.2 hesi (by omega), t, by omega⟩
    · have hge : b.Index ≤ pv := by omega
      have hne : termS b l pv ≠ tm := by
        by_cases q : pv ≤ b.Index + l.length
        · intro e; exact hok (.inr ⟨hge, q, e⟩)
        · rcases termS_ge (b := b) (l := l) g.e (i := pv) (by omega) with h' | h'
          · omega
          · rw [h'.2]; omega
      rw [rfollow_no g hge hne, Option.bind_some, wfollow_no g hge hne, Option.bind_some]
      simp only [bne_self_eq_false, Bool.false_eq_true, if_false]
      rw [sameEntries_eq (by simp), Option.bind_some]
      exact ⟨_, rfl, b, l, rfl, g, t, by omega⟩
  rw [if_neg (by simpa using w4)]
  have e2 : (if (w == 4) = true then some (w == 4) else some (w == 5)) = some (decide (w < 6)) := by
    rcases (show w = 4 ∨ w = 5 ∨ w = 6 ∨ w = 7 by omega) with rfl | rfl | rfl | rfl <;> rfl
  rw [e2, Option.bind_some]
  by_cases w6 : w < 6
  · rw [if_pos (by simpa using w6), app_of (by simp; omega) (by simp; omega), Option.bind_some, List.nil_append]
    have ha9 : 0 ≤ Int.tmod x.A 9 ∧ Int.tmod x.A 9 < 9 := by rw [Int.tmod_eq_emod_of_nonneg au.1]; omega
    have ha7 : 0 ≤ Int.tmod x.A 7 ∧ Int.tmod x.A 7 < 7 := by rw [Int.tmod_eq_emod_of_nonneg au.1]; omega
    have hc2 : 0 ≤ Int.tmod x.C 2 ∧ Int.tmod x.C 2 ≤ 1 := by rw [Int.tmod_eq_emod_of_nonneg cu.1]; omega
    rw [wrap64 (n := Int.tmod x.A 9) (by omega) (by omega)]
    have fin : ∀ d k, d.length ≤ 100000 → EOk ⟨b.Index + l.length + 1, Int.tmod x.A 9, k, d⟩ → plQ j (b, l ++ [⟨b.Index + l.length + 1, Int.tmod x.A 9, k, d⟩], b, l ++ [⟨b.Index + l.length + 1, Int.tmod x.A 9, k, d⟩]) := fun d k hd he => ⟨b, _, rfl, add_ok g (by omega) he rfl, t, by simp; omega⟩
    by_cases hb4 : Int.tmod x.B 4 = 0
    · rw [if_pos (by simpa using hb4), Option.bind_some]
      dsimp only
      rw [radd_eq g (by simp), Option.bind_some, wadd_eq g (by simp), Option.bind_some]
      dsimp only
      rw [sameEntry_eq, Option.bind_some]
      exact ⟨_, rfl, fin _ _ (by simp) ⟨by simp only; omega, by simp only; omega, by simp, fun _ => ⟨_, _, rfl, by omega, by omega, by omega, by omega⟩⟩⟩
    · rw [if_neg (by simpa using hb4), Option.bind_some]
      dsimp only
      rw [radd_eq g (by omega), Option.bind_some, wadd_eq g (by omega), Option.bind_some]
      dsimp only
      rw [sameEntry_eq, Option.bind_some]
      exact ⟨_, rfl, fin _ _ (by omega) ⟨by simp only; omega, by simp only; omega, by simp only; omega, fun k => by simp only at k; omega⟩⟩
  rw [if_neg (by simpa using w6)]
  by_cases w7 : w = 6
  · rw [if_pos (by simpa using w7), wrap64 (n := (l.length : Int) + 3) (by omega) (by omega)]
    obtain ⟨o, ho, hr⟩ := wnat_mod (m := l.length + 3) ha (by omega) (by omega)
    rw [show ((l.length + 3 : Nat) : Int) = (l.length : Int) + 3 by omega] at hr
    rw [hr, Option.bind_some, wrap64 (n := b.Index - 1) (by omega) (by omega), wrap64 (n := b.Index - 1 + (o : Int)) (by omega) (by omega)]
    generalize hi : b.Index - 1 + (o : Int) = i
    by_cases hin : b.Index < i ∧ i ≤ b.Index + l.length
    · rw [rcompact_eq g (by omega) hin.1 hin.2, Option.bind_some]
      dsimp only
      rw [wcompact_eq g (by omega) hin.1 hin.2, Option.bind_some]
      have gc := compact_ok g (d := x.L) (by omega) hin.1 hin.2
      refine ⟨_, rfl, _, _, rfl, gc, ?_, ?_⟩
      · have q := termS_le t g.e i
        rcases termS_ge (b := b) (l := l) g.e (i := i) hin.1 with h' | h'
        · exact ⟨h'.2.1, q.2⟩
        · omega
      · have : (cmB b l i x.L).Index = i := rfl
        rw [this, List.length_drop]; omega
    · rw [rcompact_no g (by omega), Option.bind_some]
      dsimp only
      rw [wcompact_no g (by omega), Option.bind_some]
      exact ⟨_, rfl, b, l, rfl, g, t, by omega⟩
  rw [if_neg (by simpa using w7)]
  by_cases hb5 : Int.tmod x.B 5 = 0
  · rw [if_pos (by simpa using hb5), wlast_eq i0 (by omega), Option.bind_some]
    have ha5 : 0 ≤ Int.tmod x.A 5 ∧ Int.tmod x.A 5 < 5 := by rw [Int.tmod_eq_emod_of_nonneg au.1]; omega
    rw [wrap64 (n := Int.tmod x.A 5) (by omega) (by omega), wrap64 (n := b.Index + (l.length : Int) + Int.tmod x.A 5) (by omega) (by omega), wrap64 (n := x.B) (by omega) (by omega)]
    unfold rlog_Log_Reset mementoref6_Log_Reset
    rw [under_eq (by simp only; omega) (by simp), Option.bind_some, Option.bind_some]
    refine ⟨_, rfl, _, _, rfl, ⟨by simp only; omega, by simp only [List.length_nil]; omega, by simp, by simp only; omega, by simp, by simp⟩, ⟨by simp only; omega, by simp only; omega⟩, by simp only [List.length_nil]; omega⟩
  · rw [if_neg (by simpa using hb5)]
    exact ⟨_, rfl, b, l, rfl, g, t, by omega⟩

theorem logPlays_eq {a0 : Int} {a1 : List Int} {a2 : List Mementolaw9_Act} (h0 : Ik .u16 a0) (h1 : ∀ x ∈ a1, Ik .u8 x) (h2 : ∀ x ∈ a2, Ik .u8 x.What ∧ Ik .u8 x.A ∧ Ik .u8 x.B ∧ Ik .u8 x.C ∧ ∀ y ∈ x.L, Ik .u8 y) : mementolaw9_LogPlays a0 a1 a2 = some true := by
  have a00 : 0 ≤ a0 := h0.1
  unfold mementolaw9_LogPlays
  rw [known9]
  simp only [Option.bind_some, Bool.not_true, Bool.false_eq_true, if_false]
  by_cases l0 : a1.length ≤ 12
  rotate_left
  · rw [if_pos (by simp; omega)]; rfl
  rw [if_neg (by simp; omega)]
  by_cases l1 : a2.length ≤ 30
  rotate_left
  · rw [Option.bind_some, if_pos (by simp; omega)]
  rw [Option.bind_some, if_neg (by simp; omega)]
  have m20 : 0 ≤ Int.tmod a0 20 ∧ Int.tmod a0 20 < 20 := by rw [Int.tmod_eq_emod_of_nonneg a00]; omega
  have m3 : 0 ≤ Int.tmod a0 3 ∧ Int.tmod a0 3 < 3 := by rw [Int.tmod_eq_emod_of_nonneg a00]; omega
  rw [wrap64 (n := Int.tmod a0 20) (by omega) (by omega), wrap64 (n := Int.tmod a0 3) (by omega) (by omega), wrap64 (n := Int.tmod a0 20 + 1) (by omega) (by omega)]
  obtain ⟨es0, he, hlen, hok0, hix⟩ := entries_eq (fr := Int.tmod a0 20 + 1) (l := a1) (by omega) (by omega) (by omega) h1
  rw [he, Option.bind_some]
  have hsome : ∃ c, (if decide ((es0.length : Int) > 3) = true then some ((Int.tmod a0 5) == 0) else some false) = some c ∧ (c = true → 3 < es0.length) := by
    split
    · rename_i hq; exact ⟨_, rfl, fun _ => by simp at hq; omega⟩
    · exact ⟨_, rfl, fun h => by cases h⟩
  obtain ⟨c, hc, hc3⟩ := hsome
  rw [hc, Option.bind_some]
  have hes : ∃ es, (if c = true then ((idx es0 3).bind fun x => ((updL es0 3 (Api_Entry.mk (IntKind.wrap .i64 (x.Index + 1)) x.Term x.Kind x.Data)).bind fun m => (some m))) else (some es0)) = some es ∧ es.length ≤ 12 ∧ ∀ x ∈ es, EOk x := by
    cases c with
    | false => exact ⟨es0, rfl, by omega, hok0⟩
    | true =>
      have h3 := hc3 rfl
      have hz := hok0 _ (List.getElem_mem h3)
      rw [if_pos rfl, show (3 : Int) = ((3 : Nat) : Int) by rfl, idx_at h3, Option.bind_some, updL_nat h3]
      refine ⟨_, rfl, by rw [List.length_set]; omega, fun z hz2 => ?_⟩
      rcases List.mem_or_eq_of_mem_set hz2 with hz2 | rfl
      · exact hok0 z hz2
      · exact ⟨hz.t0, hz.t1, hz.d, hz.c⟩
  obtain ⟨es, hes, hesl, hok⟩ := hes
  rw [hes, Option.bind_some]
  generalize hb : (⟨Int.tmod a0 20, Int.tmod a0 3, [0, 1, 2], []⟩ : Api_Base) = b
  have b0 : b.Index = Int.tmod a0 20 := by rw [← hb]
  have bd : b.Data = [] := by rw [← hb]
  have bc : b.Conf = [0, 1, 2] := by rw [← hb]
  have bt : b.Term = Int.tmod a0 3 := by rw [← hb]
  have hcn := cn_le (i := b.Index) (es := es)
  rw [rnew_eq (by omega) (by omega) (by rw [bd]; simp) (by rw [bc]; simp) (by omega) hok, Option.bind_some, wnew_eq (by omega) (by omega) (by omega), Option.bind_some]
  have g : GOk b (es.take (cn b.Index es)) := ⟨by omega, by rw [List.length_take]; omega, by rw [bc]; simp, by rw [bd]; simp, fun x hx => hok x (List.mem_of_mem_take hx), fun k hk => by rw [List.length_take] at hk; rw [List.getElem_take, cn_ix (i := b.Index) (by omega) (by omega)]⟩
  have hgl : (es.take (cn b.Index es)).length ≤ 12 := by rw [List.length_take]; omega
  rw [alike_eq g (by omega), Option.bind_some]
  simp only [Bool.not_true, Bool.false_eq_true, if_false]
  obtain ⟨r, hr, hp⟩ := loop_exF (b := mementolaw9_LogPlays_L1 a2) (s := ((0 : Int), b, es.take (cn b.Index es), b, es.take (cn b.Index es))) (plI a2.length) (plM a2.length) plPost ⟨0, b, _, rfl, by omega, g, ⟨by omega, by omega⟩, by omega⟩ (by unfold plM; simp only; omega) (fun s hs => plays_step l1 h2 s hs)
  rw [hr]
  rcases hp with rfl | ⟨y, rfl⟩ <;> rfl

end Go.Proofs.Ytbjleolchcajkaa.Am
