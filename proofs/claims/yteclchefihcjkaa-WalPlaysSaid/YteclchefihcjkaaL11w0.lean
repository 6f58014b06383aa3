/- Records: how many sectors they have. -/
import Derived.Test.YteclchefihcjkaaO0
import Derived.Test.YteclchefihcjkaaS11
import Derived.KernelRfl
namespace Go.Proofs.Yteclchefihcjkaa.Am
open Go
set_option maxRecDepth 100000
set_option linter.unusedVariables false
set_option linter.unusedSimpArgs false

/-- How many bytes a small number takes. -/
def kN (n : Int) : Nat := if n < 128 then 1 else 2
theorem put2_len {n : Int} (h0 : 0 ≤ n) (h1 : n < 16384) : ∃ t, loopN pack_Put_L2 fuel ([], n) = some t ∧ t.1.length + 1 = kN n :=
  loop_QF (b := pack_Put_L2) (s := (([] : List Int), n)) (fun s : List Int × Int => s = ([], n) ∨ 128 ≤ n ∧ s.1.length = 1 ∧ 0 ≤ s.2 ∧ s.2 < 128) (fun s => s.2.toNat) (fun t : List Int × Int => t.1.length + 1 = kN n) (.inl rfl) (by simp only; omega) (by
    rintro s (rfl | ⟨hn, hl, g0, g1⟩)
    · dsimp only [pack_Put_L2]
      by_cases h : n ≥ 128
      · right
        rw [if_pos (by simpa using h), app_of (by simp) (by simp), Option.bind_some]
        have e : shrI n 7 = n / 128 := rfl
        rw [e]
        exact ⟨_, rfl, .inr ⟨h, by simp, by simp only; omega, by simp only; omega⟩, by simp only; omega⟩
      · left
        rw [if_neg (by simpa using h)]
        exact ⟨_, rfl, by simp only [kN, List.length_nil]; rw [if_pos (by omega)]⟩
    · left
      obtain ⟨o, q⟩ := s
      dsimp only at hl g0 g1
      dsimp only [pack_Put_L2]
      rw [if_neg (by simp; omega)]
      exact ⟨_, rfl, by simp only [kN, hl]; rw [if_neg (by omega)]⟩)
theorem put_len {n : Int} (h0 : 0 ≤ n) (h1 : n < 16384) : ∃ y, pack_Put [n] = some y ∧ y.length = kN n := by
  have k2 : kN n ≤ 2 := by unfold kN; split <;> omega
  unfold pack_Put
  obtain ⟨t, ht, hp⟩ := loop_QF (b := pack_Put_L1 [n]) (s := (([] : List Int), 0)) (fun s : List Int × Int => s = ([], 0) ∨ s.2 = 1 ∧ s.1.length = kN n) (fun s => (1 - s.2).toNat) (fun t => t.length = kN n) (.inl rfl) (by simp) (by
    rintro s (rfl | ⟨g0, g1⟩)
    · right
      dsimp only [pack_Put_L1]
      have i0 : idx [n] 0 = some n := rfl
      rw [if_pos (by simp), i0, Option.bind_some]
      obtain ⟨⟨o, q⟩, ho, hl⟩ := put2_len h0 h1
      dsimp only at hl
      rw [ho, Option.bind_some]
      dsimp only
      rw [app_of (by simp only [List.length_cons, List.length_nil]; omega) (by simp only [List.length_cons, List.length_nil]; omega), Option.bind_some, wrap64 (by omega) (by omega)]
      exact ⟨_, rfl, .inr ⟨rfl, by simp; omega⟩, by simp⟩
    · left
      obtain ⟨o, q⟩ := s
      dsimp only at g0 g1
      subst g0
      dsimp only [pack_Put_L1]
      rw [if_neg (by simp)]
      exact ⟨_, rfl, g1⟩)
  rw [ht]
  exact ⟨t, rfl, hp⟩
theorem sectors_eq {n : Int} (h0 : 0 ≤ n) (h1 : n ≤ 1000000) : wal_sectors n = some ((n + 47) / 48) := by
  unfold wal_sectors
  rw [wrap64 (n := n + 48) (by omega) (by omega), wrap64 (n := n + 48 - 1) (by omega) (by omega), Int.tdiv_eq_ediv_of_nonneg (by omega), wrap64 (by omega) (by omega)]
  congr 2
  omega
/-- A record's sectors. -/
def nd (k : Nat) : Int := ((kN k : Int) + k + 4 + 47) / 48
theorem nd_le {k : Nat} (h : k ≤ 10000) : 0 ≤ nd k ∧ nd k ≤ 400 := by
  have : kN (k : Int) ≤ 2 := by unfold kN; split <;> omega
  unfold nd; omega
def tot (l : List (List Int)) : Int := l.foldl (fun a x => a + nd x.length) 0
theorem tot_take {l : List (List Int)} {j : Nat} (h : j < l.length) : tot (l.take (j + 1)) = tot (l.take j) + nd l[j].length := by
  unfold tot; rw [List.take_succ_eq_append_getElem h, List.foldl_append]; rfl
theorem need_eq {l : List (List Int)} (hl : l.length ≤ 1000) (h : ∀ x ∈ l, x.length ≤ 10000) : wal_Need l = some (tot l) := by
  unfold wal_Need
  rw [loop_eqF (s := ((0 : Int), (0 : Int))) (fun s => ∃ j : Nat, s = (tot (l.take j), (j : Int)) ∧ j ≤ l.length ∧ 0 ≤ tot (l.take j) ∧ tot (l.take j) ≤ 400 * j) (fun s => l.length - s.2.toNat) (fun _ => tot l) ⟨0, rfl, by omega, by simp [tot], by simp [tot]⟩ (by simp; omega)]
  · rfl
  rintro _ ⟨j, rfl, hj, t0, t1⟩
  simp only [wal_Need_L1]
  by_cases hjl : j < l.length
  · right
    have hx := h _ (List.getElem_mem hjl)
    rw [if_pos (by simpa using hjl), idx_at hjl, Option.bind_some, wrap64u (by omega) (by omega)]
    obtain ⟨y, hy, hyl⟩ := put_len (n := (l[j].length : Int)) (by omega) (by omega)
    have k2 : kN (l[j].length : Int) ≤ 2 := by unfold kN; split <;> omega
    rw [hy, Option.bind_some, wrap64 (n := (y.length : Int) + l[j].length) (by omega) (by omega), wrap64 (n := (y.length : Int) + l[j].length + 4) (by omega) (by omega), sectors_eq (by omega) (by omega), Option.bind_some]
    have e : ((y.length : Int) + l[j].length + 4 + 47) / 48 = nd l[j].length := by unfold nd; rw [hyl]
    have := nd_le hx
    rw [e, wrap64 (by omega) (by omega), wrap64 (by omega) (by omega), ← tot_take hjl]
    exact ⟨_, rfl, ⟨j + 1, rfl, hjl, by rw [tot_take hjl]; omega, by rw [tot_take hjl]; omega⟩, by simp only; omega, trivial⟩
  · left
    have : j = l.length := by omega
    subst this
    rw [if_neg (by simp), List.take_length]
    rfl

end Go.Proofs.Yteclchefihcjkaa.Am
