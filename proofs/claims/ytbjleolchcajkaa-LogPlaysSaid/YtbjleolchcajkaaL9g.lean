/- The laws of a log. -/
import Derived.Test.YtbjleolchcajkaaL9f
namespace Go.Proofs.Ytbjleolchcajkaa.Am
open Go
set_option linter.unusedVariables false
set_option linter.unusedSimpArgs false

theorem entries_eq {fr : Int} {l : List Int} (h0 : 0 ≤ fr) (h1 : fr ≤ 20000) (hl : l.length ≤ 100) (hb : ∀ x ∈ l, Ik .u8 x) :
    ∃ es, mementoseat_Entries fr l = some es ∧ es.length = l.length ∧ (∀ x ∈ es, EOk x) ∧ ∀ k (h : k < es.length), es[k].Index = fr + k := by
  unfold mementoseat_Entries
  obtain ⟨r, hr, hp⟩ := loop_exF (b := mementoseat_Entries_L1 fr l) (s := (([] : List En), 1, 0)) (fun s => ∃ (j : Nat) (t : Int) (out : List En), s = (out, t, (j : Int)) ∧ j ≤ l.length ∧ out.length = j ∧ 1 ≤ t ∧ t ≤ 1 + j ∧ (∀ x ∈ out, EOk x) ∧ ∀ k (h : k < out.length), out[k].Index = fr + k) (fun s => (l.length - s.2.2).toNat)
    (fun es => es.length = l.length ∧ (∀ x ∈ es, EOk x) ∧ ∀ k (h : k < es.length), es[k].Index = fr + k) ⟨0, 1, [], rfl, by omega, rfl, by omega, by omega, by simp, by simp⟩ (by simp only; omega) (by
    rintro _ ⟨j, t, out, rfl, hj, ho, ht0, ht1, hok, hix⟩
    dsimp only [mementoseat_Entries_L1]
    by_cases h : j < l.length
    · right
      rw [if_pos (by simpa using h), idx_at h, Option.bind_some]
      generalize hx : l[j] = x
      have hxb : 0 ≤ x ∧ x < 256 := (hx ▸ hb _ (List.getElem_mem h) : Ik .u8 x).u8
      have fin : ∀ kd dt, EOk ⟨fr + j, t + (x % 5) / 4, kd, dt⟩ → ∃ s', ((app 48 out ([(Api_Entry.mk (fr + j) (t + (x % 5) / 4) kd dt)] : (List Api_Entry))).bind fun m => (some (.go (m, t + (x % 5) / 4, ((j : Int) + 1))) : Option (Ctl (List En) (List En × Int × Int)))) = some (.go s') ∧ (∃ (j : Nat) (t : Int) (out : List En), s' = (out, t, (j : Int)) ∧ j ≤ l.length ∧ out.length = j ∧ 1 ≤ t ∧ t ≤ 1 + j ∧ (∀ x ∈ out, EOk x) ∧ ∀ k (h : k < out.length), out[k].Index = fr + k) ∧ ((l.length : Int) - s'.2.2).toNat < ((l.length : Int) - j).toNat := by
        intro kd dt hk
        rw [app_of (by simp; omega) (by simp; omega), Option.bind_some]
        refine ⟨_, rfl, ⟨j + 1, _, _, rfl, h, by simp; omega, by omega, by omega, ?_, ?_⟩, by simp only; omega⟩
        · intro y hy
          rcases List.mem_append.1 hy with hy | hy
          · exact hok y hy
          · simp at hy; subst hy; exact hk
        · intro k hk2
          by_cases hkj : k < out.length
          · rw [List.getElem_append_left hkj]; exact hix k hkj
          · rw [List.getElem_append_right (by omega)]
            simp only [List.length_append, List.length_cons, List.length_nil] at hk2
            simp only [List.getElem_singleton]
            omega
      simp only [Int.tdiv_eq_ediv_of_nonneg hxb.1, Int.tmod_eq_emod_of_nonneg hxb.1]
      rw [Int.tdiv_eq_ediv_of_nonneg (show 0 ≤ x % 5 by omega)]
      simp only [wrap8u (show 0 ≤ x / 5 by omega) (show x / 5 < 256 by omega), wrap8u (show 0 ≤ x % 5 / 4 by omega) (show x % 5 / 4 < 256 by omega), wrap64 (show -9223372036854775808 ≤ x / 5 by omega) (show x / 5 ≤ 9223372036854775807 by omega), wrap64 (show -9223372036854775808 ≤ x % 5 / 4 by omega) (show x % 5 / 4 ≤ 9223372036854775807 by omega), wrap64 (show -9223372036854775808 ≤ t + x % 5 / 4 by omega) (show t + x % 5 / 4 ≤ 9223372036854775807 by omega), wrap64 (show -9223372036854775808 ≤ fr + (j : Int) by omega) (show fr + (j : Int) ≤ 9223372036854775807 by omega), wrap64 (show -9223372036854775808 ≤ (j : Int) + 1 by omega) (show (j : Int) + 1 ≤ 9223372036854775807 by omega), wrap8u (show 0 ≤ (j : Int) by omega) (show (j : Int) < 256 by omega), Int.tmod_eq_emod_of_nonneg (show 0 ≤ x / 5 by omega)]
      by_cases e2 : x > 230
      · simp only [e2, decide_true, if_true]
        by_cases e1 : x / 5 % 2 = 1
        · simp only [e1, beq_self_eq_true, if_true, Option.bind_some]
          exact fin _ _ ⟨by simp only; omega, by simp only; omega, by simp, fun _ => ⟨_, _, rfl, by omega, by omega, by omega, by omega⟩⟩
        · rw [if_neg (by simpa using e1)]
          simp only [Option.bind_some]
          exact fin _ _ ⟨by simp only; omega, by simp only; omega, by simp, fun _ => ⟨_, _, rfl, by omega, by omega, by omega, by omega⟩⟩
      · simp only [e2, decide_false, Bool.false_eq_true, if_false]
        by_cases e1 : x / 5 % 2 = 1
        · simp only [e1, beq_self_eq_true, if_true, Option.bind_some]
          exact fin _ _ ⟨by simp only; omega, by simp only; omega, by simp, fun k => by simp only at k; omega⟩
        · rw [if_neg (by simpa using e1)]
          simp only [Option.bind_some]
          exact fin _ _ ⟨by simp only; omega, by simp only; omega, by simp, fun k => by simp only at k; omega⟩
    · left
      rw [if_neg (by simpa using h)]
      exact ⟨_, rfl, by omega, hok, hix⟩)
  rw [hr]
  exact ⟨r, rfl, hp⟩

theorem nm_full {b : Api_Base} {l : List En} : ∀ {p : Int} {es : List En}, (∀ k (h : k < es.length), termS b l (p + k + 1) = es[k].Term) → nm b l p es = es.length
  | _, [], _ => rfl
  | p, e :: es, h => by
    have h1 := h 0 (by simp)
    simp only [List.getElem_cons_zero, Int.natCast_zero, Int.add_zero] at h1
    unfold nm
    rw [if_pos h1, nm_full (p := p + 1) (es := es)]
    · rfl
    intro k hk
    have := h (k + 1) (by simpa using hk)
    simp only [List.getElem_cons_succ] at this
    rw [← this]; congr 1; omega
theorem termS_at {b : Api_Base} {l : List En} {k : Nat} (h : k < l.length) : termS b l (b.Index + k + 1) = l[k].Term := by
  unfold termS
  rw [if_neg (by omega), if_pos ⟨by omega, by omega⟩, show (b.Index + (k : Int) + 1 - b.Index - 1).toNat = k by omega, getD_at h]
theorem foL_term {b : Api_Base} {l : List En} (hl : ∀ x ∈ l, EOk x) {p : Int} {es : List En} (he : ∀ x ∈ es, EOk x) (h1 : b.Index ≤ p) (h2 : p ≤ b.Index + l.length) {k : Nat} (h : k < es.length) : termS b (foL b l p es) (p + k + 1) = es[k].Term := by
  have hf := nm_fits hl he h1 h2
  have hn := nm_le (b := b) (l := l) (p := p) (es := es)
  unfold foL
  by_cases e : nm b l p es = es.length
  · rw [if_pos e]; exact nm_pre (by omega) h
  rw [if_neg e]
  obtain ⟨q, hq⟩ : ∃ q : Nat, p + (nm b l p es : Nat) - b.Index = q := ⟨(p + (nm b l p es : Nat) - b.Index).toNat, by omega⟩
  rw [hq, Int.toNat_natCast]
  have hlt : (l.take q ++ es.drop (nm b l p es)).length = q + (es.length - nm b l p es) := by rw [List.length_append, List.length_take, List.length_drop]; omega
  obtain ⟨o, ho⟩ : ∃ o : Nat, p - b.Index = o := ⟨(p - b.Index).toNat, by omega⟩
  have hs : p + (k : Int) + 1 = b.Index + ((o + k : Nat) : Int) + 1 := by omega
  rw [hs, termS_at (by omega)]
  by_cases hk : k < nm b l p es
  · rw [List.getElem_append_left (by rw [List.length_take]; omega), List.getElem_take, ← nm_pre hk h, hs, termS_at]
  · rw [List.getElem_append_right (by rw [List.length_take]; omega), List.getElem_drop]
    congr 2
    rw [List.length_take]; omega
theorem foL_len {b : Api_Base} {l : List En} (hl : ∀ x ∈ l, EOk x) {p : Int} {es : List En} (he : ∀ x ∈ es, EOk x) (h1 : b.Index ≤ p) (h2 : p ≤ b.Index + l.length) : p + es.length ≤ b.Index + (foL b l p es).length ∧ (((foL b l p es).length : Int) ≤ l.length ∨ b.Index + (foL b l p es).length = p + es.length) := by
  have hf := nm_fits hl he h1 h2
  have hn := nm_le (b := b) (l := l) (p := p) (es := es)
  unfold foL
  split
  · omega
  · rw [List.length_append, List.length_take, List.length_drop]; omega
theorem foL_ok {b : Api_Base} {l : List En} (g : GOk b l) {p : Int} {es : List En} (he : ∀ x ∈ es, EOk x) (h1 : b.Index ≤ p) (h2 : p ≤ b.Index + l.length) (hix : ∀ k (h : k < es.length), es[k].Index = p + k + 1) (hb : p + es.length ≤ 10000) : GOk b (foL b l p es) where
  i0 := g.i0
  i1 := by have := (foL_len g.e he h1 h2).2; have := g.i1; omega
  cf := g.cf
  dt := g.dt
  e x hx := by
    unfold foL at hx
    split at hx
    · exact g.e x hx
    · rcases List.mem_append.1 hx with hx | hx
      · exact g.e x (List.mem_of_mem_take hx)
      · exact he x (List.mem_of_mem_drop hx)
  ix k hk := by
    have hf := nm_fits g.e he h1 h2
    have hn := nm_le (b := b) (l := l) (p := p) (es := es)
    have hix0 := g.ix
    revert hk
    unfold foL
    split
    · intro hk; exact hix0 k hk
    · intro hk
      obtain ⟨q, hq⟩ : ∃ q : Nat, p + (nm b l p es : Nat) - b.Index = q := ⟨(p + (nm b l p es : Nat) - b.Index).toNat, by omega⟩
      simp only [hq, Int.toNat_natCast, List.length_append, List.length_take, List.length_drop] at hk ⊢
      by_cases hk2 : k < q
      · rw [List.getElem_append_left (by rw [List.length_take]; omega), List.getElem_take]
        exact hix0 k (by omega)
      · rw [List.getElem_append_right (by rw [List.length_take]; omega), List.getElem_drop, hix _ (by rw [List.length_take]; omega), List.length_take]
        omega

theorem small_mod {n : Int} {m : Nat} (h : Ik .u8 n) (hm : m ≤ 100000) : ∃ k : Nat, k < m + 1 ∧ remI (IntKind.wrap .i64 n) (IntKind.wrap .i64 ((m : Int) + 1)) = some (k : Int) := by
  have := h.u8
  rw [wrap64 (by omega) (by omega), wrap64 (by omega) (by omega)]
  unfold remI
  rw [if_neg (by omega), Int.tmod_eq_emod_of_nonneg this.1]
  have h1 := Int.emod_nonneg n (show (m : Int) + 1 ≠ 0 by omega)
  have h2 := Int.emod_lt_of_pos n (show (0 : Int) < (m : Int) + 1 by omega)
  exact ⟨(n % ((m : Int) + 1)).toNat, by omega, by congr 1; omega⟩

theorem logAgain_eq {a0 : List Int} {a1 a2 : Int} (h0 : ∀ x ∈ a0, Ik .u8 x) (h1 : Ik .u8 a1) (h2 : Ik .u8 a2) : mementolaw9_LogAgain a0 a1 a2 = some true := by
  unfold mementolaw9_LogAgain
  rw [known9]
  simp only [Option.bind_some, Bool.not_true, Bool.false_eq_true, if_false]
  by_cases l0 : a0.length ≤ 16
  rotate_left
  · rw [if_pos (by simp; omega)]
  rw [if_neg (by simp; omega)]
  obtain ⟨es, he, hlen, hok, hix⟩ := entries_eq (fr := 1) (l := a0) (by omega) (by omega) (by omega) h0
  rw [he, Option.bind_some, rnew_eq (by simp) (by simp) (by simp) (by simp) (by omega) hok, Option.bind_some, cn_all (fun k h => by rw [hix k h]; simp only; omega), List.take_length]
  obtain ⟨x, hx, hr⟩ := small_mod (m := a0.length) h1 (by omega)
  rw [hr, Option.bind_some]
  have g : GOk ⟨0, 0, [0], []⟩ es := ⟨by simp, by simp only; omega, by simp, by simp, hok, fun k h => by rw [hix k h]; simp only; omega⟩
  have hm5 : 0 ≤ Int.tmod a2 5 ∧ Int.tmod a2 5 < 5 := by
    have := h2.u8
    rw [Int.tmod_eq_emod_of_nonneg this.1]; omega
  rw [wrap64 (by omega) (by omega), wrap64 (by omega) (by omega), rfrom_eq g (by omega) (by omega), Option.bind_some, rterm_eq (by simp) (by simp only; omega), Option.bind_some]
  generalize hpt : fromS ⟨0, 0, [0], []⟩ es ((x : Int) + 1) (Int.tmod a2 5) = part
  have hpl : part.length ≤ 16 := by rw [← hpt]; unfold fromS; rw [List.length_take, List.length_drop]; omega
  have hpe : ∀ y ∈ part, EOk y := fun y hy => hok y (fromS_mem (hpt ▸ hy))
  have hnm : nm ⟨0, 0, [0], []⟩ es (x : Int) part = part.length := nm_full fun k hk => by
    subst hpt
    unfold fromS at hk ⊢
    simp only [List.length_take, List.length_drop] at hk
    have := termS_at (b := ⟨0, 0, [0], []⟩) (l := es) (k := x + k) (by omega)
    rw [show (x : Int) + (k : Int) + 1 = 0 + ((x + k : Nat) : Int) + 1 by omega]
    refine Eq.trans this ?_
    simp only [List.getElem_take, List.getElem_drop]
    congr 2
    omega
  rw [rfollow_eq g hpe (by omega) (by omega) (.inr ⟨by simp only; omega, by simp only; omega, rfl⟩) (p := (x : Int)) (es' := part) (by rw [if_neg (by simp only; omega)]) (by rw [show (((⟨0, 0, [0], []⟩ : Api_Base).Index) - (x : Int)).toNat = 0 by simp only; omega]; rfl), Option.bind_some]
  simp only [hnm, List.drop_length, if_true, List.length_nil, Int.natCast_zero, beq_self_eq_true]
  have e : foL ⟨0, 0, [0], []⟩ es (x : Int) part = es := by unfold foL; rw [if_pos hnm]
  rw [e, wrap64 (by omega) (by omega), if_pos (by simp), rfrom_eq g (by omega) (by omega), Option.bind_some]
  have : fromS ⟨0, 0, [0], []⟩ es 0 99 = es := by
    show (es.drop 0).take 99 = es
    rw [List.drop_zero, List.take_of_length_le (by omega)]
  rw [this, sameEntries_eq (by omega)]
  rfl

theorem logFollows_eq {a0 a1 : List Int} {a2 : Int} (h0 : ∀ x ∈ a0, Ik .u8 x) (h1 : ∀ x ∈ a1, Ik .u8 x) (h2 : Ik .u8 a2) : mementolaw9_LogFollows a0 a1 a2 = some true := by
  unfold mementolaw9_LogFollows
  rw [known9]
  simp only [Option.bind_some, Bool.not_true, Bool.false_eq_true, if_false]
  by_cases l0 : a0.length ≤ 12
  rotate_left
  · rw [if_pos (by simp; omega)]; rfl
  rw [if_neg (by simp; omega)]
  by_cases l1 : a1.length ≤ 12
  rotate_left
  · rw [Option.bind_some, if_pos (by simp; omega)]
  rw [Option.bind_some, if_neg (by simp; omega)]
  obtain ⟨m, he, hlen, hok, hix⟩ := entries_eq (fr := 1) (l := a0) (by omega) (by omega) (by omega) h0
  obtain ⟨w, he', hlen', hok', hix'⟩ := entries_eq (fr := 1) (l := a1) (by omega) (by omega) (by omega) h1
  rw [he, Option.bind_some, rnew_eq (by simp) (by simp) (by simp) (by simp) (by omega) hok, Option.bind_some, cn_all (fun k h => by rw [hix k h]; simp only; omega), List.take_length]
  rw [he', Option.bind_some, wnew_eq (by simp) (by simp) (by omega), Option.bind_some, cn_all (fun k h => by rw [hix' k h]; simp only; omega), List.take_length]
  obtain ⟨x, hx, hr⟩ := small_mod (m := a1.length) h2 (by omega)
  rw [hr, Option.bind_some]
  generalize hb : (⟨0, 0, [0], []⟩ : Api_Base) = b
  have b0 : b.Index = 0 := by rw [← hb]
  have bt : b.Term = 0 := by rw [← hb]
  have g : GOk b m := by subst hb; exact ⟨by simp, by simp only; omega, by simp, by simp, hok, fun k h => by rw [hix k h]; simp only; omega⟩
  have g' : GOk b w := by subst hb; exact ⟨by simp, by simp only; omega, by simp, by simp, hok', fun k h => by rw [hix' k h]; simp only; omega⟩
  rw [wrap64 (by omega) (by omega), wfrom_eq g', Option.bind_some, wterm_eq (by omega) (by omega), Option.bind_some]
  have hpt : fromS b w ((x : Int) + 1) (a1.length : Int) = w.drop x := by
    unfold fromS
    rw [b0, show ((x : Int) + 1 - 0 - 1).toNat = x by omega, List.take_of_length_le]
    rw [List.length_drop]; omega
  rw [hpt]
  have hpe : ∀ y ∈ w.drop x, EOk y := fun y hy => hok' y (List.mem_of_mem_drop hy)
  have hwx : 0 ≤ termS b w x := by
    by_cases h : x = 0
    · subst h; unfold termS; rw [if_pos (by rw [b0]; rfl), bt]; omega
    · rcases termS_ge (b := b) (l := w) hok' (i := (x : Int)) (by omega) with h | h
      · exact h.2.1
      · omega
  by_cases ht : termS b m x = termS b w x
  rotate_left
  · rw [rfollow_no g (by omega) ht, Option.bind_some]
    simp only [Bool.not_false, if_true]
    rw [rlast_eq (by omega) (by omega), Option.bind_some]
    by_cases e : b.Index + (m.length : Int) < x
    · rw [if_pos (by simpa using e)]; rfl
    · rw [if_neg (by simpa using e), rterm_eq (by omega) (by omega), Option.bind_some]
      have : (termS b m x != termS b w x) = true := by simpa using ht
      rw [this]; rfl
  have hxm : (x : Int) ≤ b.Index + m.length := by
    by_cases h : x = 0
    · subst h; omega
    · rcases termS_ge (b := b) (l := m) hok (i := (x : Int)) (by omega) with h | h
      · exact h.1
      · omega
  rw [rfollow_eq g hpe (by rw [List.length_drop]; omega) (by omega) (.inr ⟨by omega, hxm, ht⟩) (p := (x : Int)) (es' := w.drop x) (by rw [if_neg (by omega)]) (by rw [show (b.Index - (x : Int)).toNat = 0 by omega]; rfl), Option.bind_some]
  have hfl := foL_len hok hpe (show b.Index ≤ (x : Int) by omega) hxm
  have hd : (w.drop x).length = a1.length - x := by rw [List.length_drop]; omega
  rw [hd] at hfl
  simp only [Bool.not_true, Bool.false_eq_true, if_false]
  rw [if_neg (by simp only [hd, bne_iff_ne, ne_eq, Decidable.not_not]; omega), rlast_eq (by omega) (by omega), Option.bind_some, Option.bind_some, if_neg (by simp; omega)]
  refine kont_to (s := ()) ?_ rfl
  rw [loop_eqF (fun s => ∃ j : Nat, s = (x : Int) + 1 + (j : Int) ∧ (x + j : Nat) ≤ a1.length) (fun s => ((a1.length : Int) + 1 - s).toNat) (fun _ => .go ()) ⟨0, by omega, by omega⟩ (by omega)]
  rintro _ ⟨j, rfl, hj⟩
  simp only [mementolaw9_LogFollows_L1]
  by_cases h : x + j < a1.length
  · right
    rw [if_pos (by simp; omega), rterm_eq (by omega) (by omega), Option.bind_some, wterm_eq (by omega) (by omega), Option.bind_some]
    have t1 := foL_term hok hpe (show b.Index ≤ (x : Int) by omega) hxm (k := j) (by omega)
    have t2 := termS_at (b := b) (l := w) (k := x + j) (by omega)
    rw [show b.Index + ((x + j : Nat) : Int) + 1 = (x : Int) + 1 + j by omega] at t2
    rw [show (x : Int) + 1 + (j : Int) = (x : Int) + j + 1 by omega] at t2 ⊢
    rw [t1, t2, List.getElem_drop, if_neg (by simp), wrap64 (by omega) (by omega)]
    exact ⟨_, rfl, ⟨j + 1, by omega, by omega⟩, by omega, trivial⟩
  · left
    rw [if_neg (by simp; omega)]
    rfl

theorem termS_cm {b : Api_Base} {l : List En} {i t : Int} {d : List Int} (h : b.Index < i) (h2 : i ≤ b.Index + l.length) (ht : i ≤ t) : termS (cmB b l i d) (l.drop (i - b.Index).toNat) t = termS b l t := by
  by_cases e : t = i
  · subst e
    have : termS (cmB b l t d) (l.drop (t - b.Index).toNat) t = termS b l t := by
      conv => lhs; unfold termS
      rw [if_pos (show t = (cmB b l t d).Index from rfl)]; rfl
    exact this
  · have hi : (cmB b l i d).Index = i := rfl
    rw [termS, if_neg (by rw [hi]; exact e), hi, List.length_drop]
    by_cases e2 : t ≤ b.Index + l.length
    · rw [if_pos ⟨by omega, by omega⟩, termS, if_neg (by omega), if_pos ⟨by omega, by omega⟩, getD_at (by rw [List.length_drop]; omega), getD_at (by omega), List.getElem_drop]
      congr 2
      omega
    · rw [if_neg (by omega), termS, if_neg (by omega), if_neg (by omega)]
theorem confS_cm {b : Api_Base} {l : List En} {i t : Int} {d : List Int} (h : b.Index < i) (ht : i ≤ t) : confS (cmB b l i d) (l.drop (i - b.Index).toNat) t = confS b l t := by
  unfold confS
  have hi : (cmB b l i d).Index = i := rfl
  have hc : (cmB b l i d).Conf = (l.take (i - b.Index).toNat).foldl chg b.Conf := rfl
  rw [hi, hc, ← List.foldl_append, ← List.take_add]
  congr 2
  omega

theorem logCompacts_eq {a0 : List Int} {a1 : Int} {a2 : List Int} (h0 : ∀ x ∈ a0, Ik .u8 x) (h1 : Ik .u8 a1) : mementolaw9_LogCompacts a0 a1 a2 = some true := by
  unfold mementolaw9_LogCompacts
  rw [known9]
  simp only [Option.bind_some, Bool.not_true, Bool.false_eq_true, if_false]
  by_cases l0 : a0.length ≤ 16
  rotate_left
  · rw [if_pos (by simp; omega)]; rfl
  rw [if_neg (by simp; omega)]
  by_cases l1 : a0.length = 0
  · rw [if_pos (by simp [List.length_eq_zero_iff.1 l1])]; rfl
  rw [if_neg (by simpa [List.length_eq_zero_iff] using l1)]
  by_cases l2 : a2.length ≤ 20
  rotate_left
  · rw [Option.bind_some, if_pos (by simp; omega)]
  rw [Option.bind_some, if_neg (by simp; omega)]
  obtain ⟨es, he, hlen, hok, hix⟩ := entries_eq (fr := 4) (l := a0) (by omega) (by omega) (by omega) h0
  rw [he, Option.bind_some, rnew_eq (by simp) (by simp) (by simp) (by simp) (by omega) hok, Option.bind_some, cn_all (fun k h => by rw [hix k h]; simp only; omega), List.take_length]
  have hr : ∃ x : Nat, x < a0.length ∧ remI (IntKind.wrap .i64 a1) (a0.length : Int) = some (x : Int) := by
    have := h1.u8
    rw [wrap64 (by omega) (by omega)]
    unfold remI
    rw [if_neg (by omega), Int.tmod_eq_emod_of_nonneg this.1]
    have h1 := Int.emod_nonneg a1 (show (a0.length : Int) ≠ 0 by omega)
    have h2 := Int.emod_lt_of_pos a1 (show (0 : Int) < (a0.length : Int) by omega)
    exact ⟨(a1 % (a0.length : Int)).toNat, by omega, by congr 1; omega⟩
  obtain ⟨x, hx, hr⟩ := hr
  rw [hr, Option.bind_some, wrap64 (n := 4 + (x : Int)) (by omega) (by omega)]
  generalize hb : (⟨3, 1, [0, 1], []⟩ : Api_Base) = b
  have b0 : b.Index = 3 := by rw [← hb]
  have g : GOk b es := by subst hb; exact ⟨by simp, by simp only; omega, by simp, by simp, hok, fun k h => by rw [hix k h]; simp only; omega⟩
  generalize hi : 4 + (x : Int) = i
  have i0 : b.Index < i := by omega
  have i1 : i ≤ b.Index + es.length := by omega
  have c0 : (cmB b es i a2).Index = i := rfl
  have cd : (cmB b es i a2).Data = a2 := rfl
  have cc : (cmB b es i a2).Conf = confS b es i := rfl
  have gc := compact_ok g (d := a2) (by omega) i0 i1
  have tc := fun {t : Int} => termS_cm (b := b) (l := es) (i := i) (t := t) (d := a2) i0 i1
  have fc := fun {t : Int} => confS_cm (b := b) (l := es) (i := i) (t := t) (d := a2) i0
  have hdl : (es.drop (i - b.Index).toNat).length = a0.length - (x + 1) := by rw [List.length_drop]; omega
  have hfd : fromS b es (i + 1) 99 = es.drop (i - b.Index).toNat := by
    unfold fromS
    rw [List.take_of_length_le (by rw [List.length_drop]; omega)]
    congr 1; omega
  rw [rcompact_eq g (by omega) i0 i1, Option.bind_some]
  generalize hcm : cmB b es i a2 = c at *
  generalize hl' : es.drop (i - b.Index).toNat = l' at *
  simp only [Bool.not_true, Bool.false_eq_true, if_false]
  rw [rcompact_no gc (.inl (by omega)), Option.bind_some]
  simp only [Bool.false_eq_true, if_false]
  rw [rlast_eq (by omega) (by omega), Option.bind_some, wrap64 (by omega) (by omega), rcompact_no gc (.inr (by omega)), Option.bind_some]
  simp only [Bool.false_eq_true, if_false]
  have hub : rlog_tail_Base ⟨c, l'⟩ = some c := by
    unfold rlog_tail_Base
    rw [under_eq gc.dt (by have := gc.cf; omega)]; rfl
  rw [hub, Option.bind_some, if_neg (by simp [c0]), cd, if_neg (by simp), rlast_eq (by omega) (by omega), Option.bind_some, rlast_eq (by omega) (by omega), Option.bind_some, Option.bind_some]
  have hne : ((c.Index + (l'.length : Int)) != (b.Index + (es.length : Int))) = false := by simp; omega
  simp only [hne, Bool.false_eq_true, if_false]
  refine kont_to (s := ()) ?_ ?_
  · rw [loop_eqF (s := i) (fun s => i ≤ s ∧ s ≤ b.Index + es.length + 1) (fun s => (b.Index + (es.length : Int) + 1 - s).toNat) (fun _ => .go ()) ⟨by omega, by omega⟩ (by omega)]
    rintro t ⟨t0, t1⟩
    simp only [mementolaw9_LogCompacts_L1]
    rw [rlast_eq (by omega) (by omega), Option.bind_some]
    by_cases h : t ≤ b.Index + es.length
    · right
      rw [if_pos (by simpa using h), rterm_eq (by omega) (by omega), Option.bind_some, rterm_eq (by omega) (by omega), Option.bind_some, tc t0, if_neg (by simp), rconf_eq gc, Option.bind_some, rconf_eq g, Option.bind_some, fc t0]
      have := chgs_len g.cf (es.take (t - b.Index).toNat)
      rw [same_refl (by unfold confS; omega)]
      simp only [Option.bind_some, Bool.not_true, Bool.false_eq_true, if_false]
      rw [wrap64 (by omega) (by omega)]
      exact ⟨_, rfl, ⟨by omega, by omega⟩, by omega, by first | trivial | rfl⟩
    · left
      rw [if_neg (by simpa using h)]
      rfl
  · rw [wrap64 (n := i - 1) (by omega) (by omega), rterm_eq (by omega) (by omega), Option.bind_some]
    have tm : termS c l' (i - 1) = -1 := by unfold termS; rw [if_neg (by omega), if_neg (by omega)]
    rw [tm, if_pos (by simp), rfrom_eq gc (by omega) (by omega), Option.bind_some, wrap64 (by omega) (by omega), rfrom_eq g (by omega) (by omega), Option.bind_some]
    have hfc : fromS c l' 0 99 = l' := by
      unfold fromS
      rw [show (0 - c.Index - 1).toNat = 0 by omega, List.drop_zero, List.take_of_length_le (by omega)]
    rw [hfd, hfc, sameEntries_eq (by omega), Option.bind_some, if_pos rfl, hub, Option.bind_some, rconf_eq g, Option.bind_some, cc]
    have := chgs_len g.cf (es.take (i - b.Index).toNat)
    rw [same_refl (by unfold confS; omega)]
    rfl

end Go.Proofs.Ytbjleolchcajkaa.Am
