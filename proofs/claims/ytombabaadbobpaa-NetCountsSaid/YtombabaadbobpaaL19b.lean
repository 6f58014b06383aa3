/- Words under way: the laws of order and of counts, as functions over lists. -/
import Derived.Test.YtombabaadbobpaaL19
namespace Go.Proofs.Ytombabaadbobpaa.Am
open Go
set_option linter.unusedVariables false

theorem netOrder_eq {l : List (List Int)} {a : Int} (ha : 0 ≤ a ∧ a < 256) : mementolaw19_NetOrder l a = some true := by
  unfold mementolaw19_NetOrder
  rw [known19_eq, Option.bind_some, Bool.not_true, if_neg (by simp)]
  by_cases hl : l.length > 20
  · rw [if_pos (by simp; omega)]; rfl
  rw [if_neg (by simp; omega), Option.bind_some]
  by_cases h0 : l.length = 0
  · rw [if_pos (by simp [h0])]
  rw [if_neg (by simpa using h0)]
  have e0 : net_New = some ⟨[]⟩ := rfl
  rw [e0, Option.bind_some]
  suffices key : ∃ t, loopN (mementolaw19_NetOrder_L1 l) fuel ([], 0) = some t ∧ (t = .ret true ∨ ∃ q : Fls, t = .go q ∧ FlOk q ∧ q.length = l.length) by
    obtain ⟨t, ht, hq⟩ := key
    rw [ht]
    rcases hq with rfl | ⟨q, rfl, hok, hlen⟩
    · rfl
    rw [kont_go']
    have ed : IntKind.wrap .i64 (Int.tdiv (q.length : Int) 2) = ((q.length / 2 : Nat) : Int) := by
      have : Int.tdiv (q.length : Int) 2 = ((q.length / 2 : Nat) : Int) := by rw [Int.tdiv_eq_ediv_of_nonneg (by omega)]; omega
      rw [this, wrap64 (by omega) (by omega)]
    have z0 : ((0 : Nat) : Int) = 0 := rfl
    have s1 : slc q 0 ((q.length / 2 : Nat) : Int) = some (q.take (q.length / 2)) := by rw [← z0, slc_nat _ (by omega) (by omega), List.drop_zero]
    have s2 : slc q ((q.length / 2 : Nat) : Int) ((q.length : Nat) : Int) = some (q.drop (q.length / 2)) := by rw [slc_nat _ (by omega) (by omega), List.take_length]
    have o1 : FlOk (q.take (q.length / 2)) := fun f hf => hok f (List.mem_of_mem_take hf)
    have o2 : FlOk (q.drop (q.length / 2)) := fun f hf => hok f (List.mem_of_mem_drop hf)
    have e1 := send19_eq (p := ⟨[]⟩) o1 (by simp; omega)
    have e2 := send19_eq (p := ⟨q.take (q.length / 2)⟩) o2 (by simp; omega)
    rw [List.nil_append] at e1
    rw [List.take_append_drop] at e2
    have ew : IntKind.wrap .i64 a = a := wrap64 (by omega) (by omega)
    have er : remI a (q.length : Int) = some (((a.toNat % q.length : Nat)) : Int) := by
      unfold remI
      rw [if_neg (by omega), Int.tmod_eq_emod_of_nonneg ha.1]
      congr 1
      rw [Int.natCast_emod, Int.toNat_of_nonneg ha.1]
    have hk : a.toNat % q.length < q.length := Nat.mod_lt _ (by omega)
    generalize a.toNat % q.length = k at *
    have e3 := twice19_in (p := ⟨q⟩) (i := k) hk hok (by simp only; omega)
    rw [ed, s1, Option.bind_some, e1, Option.bind_some, s2, Option.bind_some, e2, Option.bind_some, ew, er, Option.bind_some, e3]
    simp only [Option.bind_some, Bool.not_true, Bool.false_eq_true, if_false]
    rw [idx_at hk, Option.bind_some, app_of (by simp; omega) (by simp; omega), Option.bind_some]
    have hm : FlOk (q ++ [q[k]]) := hok.app (hok.one hk)
    have hml : (q ++ [q[k]]).length = l.length + 1 := by simp [hlen]
    generalize q ++ [q[k]] = m at *
    rw [loop_eqF (b := mementolaw19_NetOrder_L2 m) (s := (0, ⟨m⟩)) (fun s => ∃ i : Nat, i ≤ m.length ∧ s = ((i : Int), ⟨m.drop i⟩)) (fun s => m.length - s.1.toNat) (fun _ => .go (⟨[]⟩ : Net_Pool)) ⟨0, by omega, by simp⟩ (by simp; omega)]
    · rfl
    rintro _ ⟨i, hi, rfl⟩
    simp only [mementolaw19_NetOrder_L2]
    by_cases him : i < m.length
    · right
      have hT := take19_in (p := ⟨m.drop i⟩) (i := 0) (by simp only [List.length_drop]; omega) (by simp only [List.length_drop]; omega)
      have hg : (m.drop i)[0]'(by rw [List.length_drop]; omega) = m[i] := by simp
      simp only [hg] at hT
      have he : (m.drop i).eraseIdx 0 = m.drop (i + 1) := by rw [List.drop_eq_getElem_cons him]; rfl
      rw [he] at hT
      have z0 : ((0 : Nat) : Int) = 0 := rfl
      rw [z0] at hT
      rw [if_pos (by simpa using him), hT, Option.bind_some]
      simp only [Bool.not_true, Bool.false_eq_true, if_false, idx_at him, Option.bind_some, bne_self_eq_false]
      rw [nextI (by omega)]
      exact ⟨_, rfl, ⟨i + 1, him, rfl⟩, by simp only [Int.toNat_natCast]; omega, trivial⟩
    · left
      have : i = m.length := by omega
      subst this
      rw [if_neg (by simp), List.drop_length]
      rfl
  refine loop_QF (fun s => ∃ (i : Nat) (q : Fls), i ≤ l.length ∧ s = (q, (i : Int)) ∧ FlOk q ∧ q.length = i) (fun s => l.length - s.2.toNat) _ ⟨0, [], by omega, rfl, .nil, rfl⟩ (by simp; omega) ?_
  rintro _ ⟨i, q, hi, rfl, hq, hlen⟩
  simp only [mementolaw19_NetOrder_L1]
  by_cases hil : i < l.length
  · rw [if_pos (by simpa using hil), idx_at hil, Option.bind_some]
    by_cases h40 : l[i].length > 40
    · left
      rw [if_pos (by simp; omega)]
      exact ⟨_, rfl, .inl rfl⟩
    right
    rw [if_neg (by simp; omega), app_of (by simp; omega) (by simp; omega), Option.bind_some, nextI (by omega)]
    exact ⟨_, rfl, ⟨i + 1, _, hil, rfl, hq.app (fun f hf => by simp at hf; subst hf; simp only; omega), by simp [hlen]⟩, by simp only [Int.toNat_natCast]; omega⟩
  · left
    rw [if_neg (by simp; omega)]
    exact ⟨_, rfl, .inr ⟨q, rfl, hq, by omega⟩⟩

theorem netCounts_eq {n : Int} {l : List Int} (hn : 0 ≤ n ∧ n < 256) : mementolaw19_NetCounts n l = some true := by
  unfold mementolaw19_NetCounts
  rw [known19_eq, Option.bind_some, Bool.not_true, if_neg (by simp)]
  by_cases hl : l.length > 30
  · rw [if_pos (by simp; omega)]
  rw [if_neg (by simp; omega)]
  have e0 : net_New = some ⟨[]⟩ := rfl
  rw [e0, Option.bind_some]
  obtain ⟨k, hk, ek⟩ : ∃ k : Nat, k < 20 ∧ IntKind.wrap .i64 (Int.tmod n 20) = (k : Int) := by
    refine ⟨n.toNat % 20, Nat.mod_lt _ (by omega), ?_⟩
    have : Int.tmod n 20 = ((n.toNat % 20 : Nat) : Int) := by rw [Int.tmod_eq_emod_of_nonneg hn.1]; omega
    rw [this, wrap64 (by omega) (by omega)]
  have key : ∃ t, loopN (mementolaw19_NetCounts_L1 n) fuel (0, ⟨[]⟩) = some t ∧ (FlOk t.l ∧ t.l.length = k) := by
    refine loop_QF (fun s => ∃ (i : Nat) (q : Fls), i ≤ k ∧ s = ((i : Int), ⟨q⟩) ∧ FlOk q ∧ q.length = i) (fun s => k - s.1.toNat) _ ⟨0, [], by omega, rfl, .nil, rfl⟩ (by simp; omega) ?_
    rintro _ ⟨i, q, hi, rfl, hq, hlen⟩
    simp only [mementolaw19_NetCounts_L1, ek]
    by_cases hik : i < k
    · right
      have o1 : FlOk [⟨Int.tmod (i : Int) 7, 0, [IntKind.wrap .u8 (i : Int)]⟩] := fun f hf => by simp at hf; subst hf; simp
      have e1 := send19_eq (p := ⟨q⟩) o1 (by simp; omega)
      rw [if_pos (by simpa using hik), e1, Option.bind_some, nextI (by omega)]
      exact ⟨_, rfl, ⟨i + 1, _, hik, rfl, hq.app o1, by simp [hlen]⟩, by simp only [Int.toNat_natCast]; omega⟩
    · left
      rw [if_neg (by simp; omega)]
      exact ⟨_, rfl, hq, by simp only; omega⟩
  obtain ⟨⟨q⟩, ht, hq, hlen⟩ := key
  simp only at hq hlen
  have e1 := send19_eq (p := ⟨q⟩) (l := []) .nil (by simp; omega)
  rw [List.append_nil] at e1
  rw [ht, Option.bind_some, e1, Option.bind_some, ek]
  suffices key : ∃ t, loopN (mementolaw19_NetCounts_L2 l) fuel ((k : Int), 0, ⟨q⟩) = some t ∧ ∃ s, t = .go s by
    obtain ⟨t, ht, s, rfl⟩ := key
    rw [ht]; rfl
  refine loop_QF (fun s => ∃ (i : Nat) (q : Fls), i ≤ l.length ∧ s = ((q.length : Int), (i : Int), ⟨q⟩) ∧ FlOk q ∧ q.length ≤ k) (fun s => l.length - s.2.1.toNat) _ ⟨0, q, by omega, by rw [hlen]; rfl, hq, by omega⟩ (by simp; omega) ?_
  clear ht hq hlen e1
  rintro _ ⟨i, q, hi, rfl, hq, hlen⟩
  simp only [mementolaw19_NetCounts_L2]
  by_cases hil : i < l.length
  · right
    rw [if_pos (by simpa using hil), idx_at hil, Option.bind_some]
    have hN : ∃ N : Int, (if (Int.tmod (i : Int) 2 == 0) = true then some (Go.bits .and .i64 l[i] 15) else some l[i]) = some N := by split <;> exact ⟨_, rfl⟩
    obtain ⟨N, hN⟩ := hN
    rw [hN, Option.bind_some]
    by_cases hin : 0 ≤ N ∧ N < q.length
    · obtain ⟨j, rfl⟩ : ∃ j : Nat, N = j := ⟨N.toNat, by omega⟩
      have hj : j < q.length := by omega
      have hT := take19_in (p := ⟨q⟩) (i := j) hj (by simp only; omega)
      have hE : (q.eraseIdx j).length = q.length - 1 := by rw [List.length_eraseIdx]; split <;> omega
      have hA := all19_eq (p := ⟨q.eraseIdx j⟩) (hq.erase j) (by simp only; omega)
      have ew : IntKind.wrap .i64 ((q.length : Int) - 1) = ((q.eraseIdx j).length : Int) := by rw [wrap64 (by omega) (by omega), hE]; omega
      simp only [hT, Option.bind_some]
      rw [if_pos (by simp), if_neg (by simp; omega), if_neg (by simp)]
      simp only [Option.bind_some, Bool.false_eq_true, if_false, if_true, ew, net_Pool_Len, bne_self_eq_false, hA]
      rw [nextI (by omega)]
      exact ⟨_, rfl, ⟨i + 1, _, hil, rfl, hq.erase j, by omega⟩, by simp only [Int.toNat_natCast]; omega⟩
    · have hT := take19_out (p := ⟨q⟩) (n := N) hin
      have hA := all19_eq (p := ⟨q⟩) hq (by simp only; omega)
      simp only [hT, Option.bind_some]
      have hc : (if decide (N ≥ 0) = true then if (false != decide (N < (q.length : Int))) = true then some true else if (!false) = true then some ((((⟨0, 0, []⟩ : Api_Flight).Bytes.length : Nat) : Int) != 0) else some false else if (false != false) = true then some true else if (!false) = true then some ((((⟨0, 0, []⟩ : Api_Flight).Bytes.length : Nat) : Int) != 0) else some false) = some false := by
        by_cases h0 : 0 ≤ N
        · rw [if_pos (by simpa using h0), if_neg (by simp; omega)]; rfl
        · rw [if_neg (by simpa using h0)]; rfl
      rw [hc]
      simp only [Option.bind_some, Bool.false_eq_true, if_false, net_Pool_Len, bne_self_eq_false, hA]
      rw [nextI (by omega)]
      exact ⟨_, rfl, ⟨i + 1, _, hil, rfl, hq, by omega⟩, by simp only [Int.toNat_natCast]; omega⟩
  · left
    rw [if_neg (by simp; omega)]
    exact ⟨_, rfl, _, rfl⟩

end Go.Proofs.Ytombabaadbobpaa.Am
