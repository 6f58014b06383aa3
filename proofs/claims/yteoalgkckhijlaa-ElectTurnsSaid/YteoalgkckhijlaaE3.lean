/- elect.Commit as the plain function tells it. -/
import Derived.Test.YteoalgkckhijlaaE2
import Derived.Test.YteoalgkckhijlaaL7b
namespace Go.Proofs.Yteoalgkckhijlaa.Am
open Go Go.RowKit
set_option linter.unusedVariables false

/-- The one in the middle of a sorted row: as high as what most have. -/
theorem mid_iff {m : List Int} (hs : ∀ k l, k < l → l < m.length → gt m k ≤ gt m l) (hp : 0 < m.length) (a : Int) :
    a ≤ m[(m.length - 1) / 2]?.getD 0 ↔ m.length < 2 * (m.filter fun x => decide (a ≤ x)).length := by
  obtain ⟨t, ht⟩ : ∃ t, (m.length - 1) / 2 = t := ⟨_, rfl⟩
  have htl : t < m.length := by omega
  have hg : ∀ k, m[k]?.getD 0 = gt m k := fun k => by unfold gt; rw [List.getD_eq_getElem?_getD]
  rw [ht, hg]
  have hle : ∀ k l, k ≤ l → l < m.length → gt m k ≤ gt m l := fun k l h1 h2 => by
    rcases Nat.lt_or_ge k l with h | h
    · exact hs k l h h2
    · rw [show k = l by omega]; omega
  constructor
  · intro h
    have h1 : (m.drop t).filter (fun x => decide (a ≤ x)) = m.drop t := List.filter_eq_self.2 fun x hx => by
      obtain ⟨i, hi, rfl⟩ := List.getElem_of_mem hx
      rw [List.length_drop] at hi
      rw [List.getElem_drop, ← gt_at (show t + i < m.length by omega)]
      have := hle t (t + i) (by omega) (by omega)
      exact decide_eq_true (by omega)
    have h2 : (m.filter fun x => decide (a ≤ x)) = (m.take t).filter (fun x => decide (a ≤ x)) ++ m.drop t := by rw [← h1, ← List.filter_append, List.take_append_drop]
    rw [h2, List.length_append, List.length_drop]
    omega
  · intro h
    by_cases hc : a ≤ gt m t
    · exact hc
    exfalso
    have h1 : (m.take (t + 1)).filter (fun x => decide (a ≤ x)) = [] := List.filter_eq_nil_iff.2 fun x hx => by
      obtain ⟨i, hi, rfl⟩ := List.getElem_of_mem hx
      rw [List.length_take] at hi
      rw [List.getElem_take, ← gt_at (show i < m.length by omega)]
      have := hle i t (by omega) htl
      simp; omega
    have h2 : (m.filter fun x => decide (a ≤ x)) = (m.drop (t + 1)).filter (fun x => decide (a ≤ x)) := by
      conv => lhs; rw [← List.take_append_drop (t + 1) m, List.filter_append, h1, List.nil_append]
    have h3 := List.length_filter_le (fun x => decide (a ≤ x)) (m.drop (t + 1))
    rw [h2] at h
    rw [List.length_drop] at h3
    omega

theorem w_elect_Commit (term commit : Int) (mt ts : List Int) (H : Mem) {r : Int} (h : elect_Commit term commit mt ts = some r) :
    ACalls Try.prog 13 [.sc (.int .i64 term), .sc (.int .i64 commit), .sl 1 (mt.map c_i64) .no, .sl 1 (ts.map c_i64) .no] H (fun r' H' => r' = .sc (.int .i64 r) ∧ H' = H) := by
  unfold elect_Commit at h
  split at h
  · rename_i hl
    cases h
    refine acalls_of_below (by kernel_rfl) fun g w vals hm hsz hv => ?_
    obtain ⟨v0, v1, v2, v3, rfl⟩ : ∃ v0 v1 v2 v3, vals = #[v0, v1, v2, v3] := by
      obtain ⟨l⟩ := vals
      match l, hsz with
      | [v0, v1, v2, v3], _ => exact ⟨v0, v1, v2, v3, rfl⟩
    obtain rfl := VR_sc (hv 0 _ rfl)
    obtain rfl := VR_sc (hv 1 _ rfl)
    have h2 := Ints.of_VR hm (hv 2 _ rfl)
    have h3 := Ints.of_VR hm (hv 3 _ rfl)
    change Ints w.heap.size w v2 mt at h2
    change Ints w.heap.size w v3 ts at h3
    by_cases h0 : mt = []
    · subst h0
      rw [if_pos rfl]
      rcases h2 with ⟨_, q⟩ | ⟨b, off, cap, rfl, _⟩
      · exact callsIn_wide.1 (commit0_in term commit v2 v3 q w)
      · exact callsIn_wide.1 (commit0_in term commit _ v3 ⟨_, _, rfl⟩ w)
    · rw [if_neg h0]
      have hpos : 0 < mt.length := List.length_pos_iff.2 h0
      obtain ⟨m, hs, hml, hperm, hso⟩ := sort_eq hl.1
      obtain ⟨a1, c1, rfl⟩ := h2.slice
      obtain ⟨a2, c2, rfl⟩ := h3.slice
      refine (callsIn_wide.1 (commit1_in term commit a1 a2 c1 c2 mt ts m hs hml hpos hl.1 hl.2 w h2 h3)).mono fun e w' q => ?_
      have hc : cmtT term commit (m[(mt.length - 1) / 2]?.getD 0) = cmtC term commit mt := by
        funext p
        unfold cmtT cmtC
        congr 1
        have q := mid_iff hso (by omega) (cmtAt commit p.1)
        rw [hml, (hperm.filter _).length_eq] at q
        simp only [q]
      rw [hc] at q
      exact q
  · cases h
end Go.Proofs.Yteoalgkckhijlaa.Am
