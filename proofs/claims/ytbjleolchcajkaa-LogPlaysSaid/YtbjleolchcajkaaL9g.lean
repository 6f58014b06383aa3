/- The laws of a log. -/
import Derived.Test.YtbjleolchcajkaaL9f
namespace Go.Proofs.Ytbjleolchcajkaa.Am
open Go
set_option linter.unusedVariables false
set_option linter.unusedSimpArgs false

theorem entries_eq {fr : Int} {l : List Int} (h0 : 0 ≤ fr) (h1 : fr ≤ 20000) (hl : l.length ≤ 100) (hb : ∀ x ∈ l, Ik .u8 x) :
    ∃ es, mementoseat_Entries fr l = some es ∧ es.length = l.length ∧ (∀ x ∈ es, EOk x) ∧ ∀ k (h : k < es.length), es[k].Index = fr + k := by
  unfold mementoseat_Entries
  obtain ⟨r, hr, hp⟩ := loop_exF (b := mementoseat_Entries_L1 fr l) (s := (([] : List En), 1, 0)) (fun s => ∃ (j : Nat) (t : Int) (out : List En), s = (out, t, (j : Int)) ∧ j ≤ l.length ∧ out.length = j ∧ 1 ≤ t ∧ t ≤ 1 + j ∧ (∀ x ∈ out, EOk x) ∧ ∀ k (h : k < out.length), out[k].Index = fr + k) (fun s => (l.length - s.2.2).toNat)
    (fun es => es.length = l.length ∧ (∀ x ∈ es, EOk x) ∧ ∀ k (h : k < es.length), es[k].Index = fr + k) ⟨0, 1, [], rfl, by omega, rfl, by omega, by omega, by simp, by simp⟩ (by simp only; omega) (by
    rintro _ ⟨j, t, out, rfl, hj, ho, ht0, ht1, hok, hix⟩
    dsimp only [mementoseat_Entries_L1]
    by_cases h : j < l.length
    · right
      rw [if_pos (by simpa using h), idx_at h, Option.bind_some]
      generalize hx : l[j] = x
      have hxb : 0 ≤ x ∧ x < 256 := (hx ▸ hb _ (List.getElem_mem h) : Ik .u8 x).u8
      have fin : ∀ kd dt, EOk ⟨fr + j, t + (x % 5) / 4, kd, dt⟩ → ∃ s', ((app 48 out ([(Api_Entry.mk (fr + j) (t + (x % 5) / 4) kd dt)] : (List Api_Entry))).bind fun m => (some (.go (m, t + (x % 5) / 4, ((j : Int) + 1))) : Option (Ctl (List En) (List En × Int × Int)))) = some (.go s') ∧ (∃ (j : Nat) (t : Int) (out : List En), s' = (out, t, (j : Int)) ∧ j ≤ l.length ∧ out.length = j ∧ 1 ≤ t ∧ t ≤ 1 + j ∧ (∀ x ∈ out, EOk x) ∧ ∀ k (h : k < out.length), out[k].Index = fr + k) ∧ ((l.length : Int) - s'.2.2).toNat < ((l.length : Int) - j).toNat := by
        intro kd dt hk
        rw [app_of (by simp; omega) (by simp; omega), Option.bind_some]
        refine ⟨_, rfl, ⟨j + 1, _, _, rfl, h, by simp; omega, by omega, by omega, ?_, ?_⟩, by simp only; omega⟩
        · intro y hy
          rcases List.mem_append.1 hy with hy | hy
          · exact hok y hy
          · simp at hy; subst hy; exact hk
        · intro k hk2
          by_cases hkj : k < out.length
          · rw [List.getElem_append_left hkj]; exact hix k hkj
          · rw [List.getElem_append_right (by omega)]
            simp only [List.length_append, List.length_cons, List.length_nil] at hk2
            simp only [List.getElem_singleton]
            omega
      simp only [Int.tdiv_eq_ediv_of_nonneg hxb.1, Int.tmod_eq_emod_of_nonneg hxb.1]
      rw [Int.tdiv_eq_ediv_of_nonneg (show 0 ≤ x % 5 by omega)]
      simp only [wrap8u (show 0 ≤ x / 5 by omega) (show x / 5 < 256 by omega), wrap8u (show 0 ≤ x % 5 / 4 by omega) (show x % 5 / 4 < 256 by omega), wrap64 (show -9223372036854775808 ≤ x / 5 by omega) (show x / 5 ≤ 9223372036854775807 by omega), wrap64 (show -9223372036854775808 ≤ x % 5 / 4 by omega) (show x % 5 / 4 ≤ 9223372036854775807 by omega), wrap64 (show -9223372036854775808 ≤ t + x % 5 / 4 by omega) (show t + x % 5 / 4 ≤ 9223372036854775807 by omega), wrap64 (show -9223372036854775808 ≤ fr + (j : Int) by omega) (show fr + (j : Int) ≤ 9223372036854775807 by omega), wrap64 (show -9223372036854775808 ≤ (j : Int) + 1 by omega) (show (j : Int) + 1 ≤ 9223372036854775807 by omega), wrap8u (show 0 ≤ (j : Int) by omega) (show (j : Int) < 256 by omega), Int.tmod_eq_emod_of_nonneg (show 0 ≤ x / 5 by omega)]
      by_cases e2 : x > 230
      · simp only [e2, decide_true, if_true]
        by_cases e1 : x / 5 % 2 = 1
        · simp only [e1, beq_self_eq_true, if_true, Option.bind_some]
          exact fin _ _ ⟨by simp only; omega, by simp only; omega, by simp, fun _ => ⟨_, _, rfl, by omega, by omega, by omega, by omega⟩⟩
        · rw [if_neg (by simpa using e1)]
          simp only [Option.bind_some]
          exact fin _ _ ⟨by simp only; omega, by simp only; omega, by simp, fun _ => ⟨_, _, rfl, by omega, by omega, by omega, by omega⟩⟩
      · simp only [e2, decide_false, Bool.false_eq_true, if_false]
        by_cases e1 : x / 5 % 2 = 1
        · simp only [e1, beq_self_eq_true, if_true, Option.bind_some]
          exact fin _ _ ⟨by simp only; omega, by simp only; omega, by simp, fun k => by simp only at k; omega⟩
        · rw [if_neg (by simpa using e1)]
          simp only [Option.bind_some]
          exact fin _ _ ⟨by simp only; omega, by simp only; omega, by simp, fun k => by simp only at k; omega⟩
    · left
      rw [if_neg (by simpa using h)]
      exact ⟨_, rfl, by omega, hok, hix⟩)
  rw [hr]
  exact ⟨r, rfl, hp⟩

theorem foL_len {b : Api_Base} {l : List En} (hl : ∀ x ∈ l, EOk x) {p : Int} {es : List En} (he : ∀ x ∈ es, EOk x) (h1 : b.Index ≤ p) (h2 : p ≤ b.Index + l.length) : p + es.length ≤ b.Index + (foL b l p es).length ∧ (((foL b l p es).length : Int) ≤ l.length ∨ b.Index + (foL b l p es).length = p + es.length) := by
  have hf := nm_fits hl he h1 h2
  have hn := nm_le (b := b) (l := l) (p := p) (es := es)
  unfold foL
  split
  · omega
  · rw [List.length_append, List.length_take, List.length_drop]; omega
theorem foL_ok {b : Api_Base} {l : List En} (g : GOk b l) {p : Int} {es : List En} (he : ∀ x ∈ es, EOk x) (h1 : b.Index ≤ p) (h2 : p ≤ b.Index + l.length) (hix : ∀ k (h : k < es.length), es[k].Index = p + k + 1) (hb : p + es.length ≤ 10000) : GOk b (foL b l p es) where
  i0 := g.i0
  i1 := by have := (foL_len g.e he h1 h2).2; have := g.i1; omega
  cf := g.cf
  dt := g.dt
  e x hx := by
    unfold foL at hx
    split at hx
    · exact g.e x hx
    · rcases List.mem_append.1 hx with hx | hx
      · exact g.e x (List.mem_of_mem_take hx)
      · exact he x (List.mem_of_mem_drop hx)
  ix k hk := by
    have hf := nm_fits g.e he h1 h2
    have hn := nm_le (b := b) (l := l) (p := p) (es := es)
    have hix0 := g.ix
    revert hk
    unfold foL
    split
    · intro hk; exact hix0 k hk
    · intro hk
      obtain ⟨q, hq⟩ : ∃ q : Nat, p + (nm b l p es : Nat) - b.Index = q := ⟨(p + (nm b l p es : Nat) - b.Index).toNat, by omega⟩
      simp only [hq, Int.toNat_natCast, List.length_append, List.length_take, List.length_drop] at hk ⊢
      by_cases hk2 : k < q
      · rw [List.getElem_append_left (by rw [List.length_take]; omega), List.getElem_take]
        exact hix0 k (by omega)
      · rw [List.getElem_append_right (by rw [List.length_take]; omega), List.getElem_drop, hix _ (by rw [List.length_take]; omega), List.length_take]
        omega

end Go.Proofs.Ytbjleolchcajkaa.Am
