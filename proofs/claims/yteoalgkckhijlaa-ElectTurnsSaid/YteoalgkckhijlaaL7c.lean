/- Who may lead, what is committed: the five laws, as functions over lists. -/
import Derived.Test.YteoalgkckhijlaaO0
import Derived.Test.YteoalgkckhijlaaS7
import Derived.KernelRfl
namespace Go.Proofs.Yteoalgkckhijlaa.Am
open Go
set_option linter.unusedVariables false
set_option linter.unusedSimpArgs false

theorem known7 : mementolaw7_known = some true := by kernel_rfl

theorem part7 {n : Int} (h : 0 ≤ n) : elect_part n = some (n % 10) := by
  unfold elect_part maxI
  rw [Int.tmod_eq_emod_of_nonneg (by split <;> omega)]
  split
  · rw [show n = 0 by omega]
  · rfl
theorem timeout7 {n t : Int} (hn : 0 ≤ n) (ht : 0 ≤ t) : elect_Timeout n t = some (10 + (7 * (n % 10) + 3 * (t % 10)) % 10) := by
  unfold elect_Timeout
  rw [part7 hn, part7 ht]
  simp only [Option.bind_some]
  rw [wrap64 (n := 7 * (n % 10)) (by omega) (by omega), wrap64 (n := 3 * (t % 10)) (by omega) (by omega), wrap64 (n := 7 * (n % 10) + 3 * (t % 10)) (by omega) (by omega), Int.tmod_eq_emod_of_nonneg (by omega), wrap64 (by omega) (by omega)]

theorem newer7 (a b c d : Int) : elect_Newer a b c d = some (decide (a > c ∨ a = c ∧ b ≥ d)) := by
  unfold elect_Newer
  by_cases h : a > c
  · simp [h]
  · by_cases h2 : a = c
    · subst h2; simp
    · simp [h, h2]
theorem refNewer7 (a b c d : Int) : mementoref6_Newer a b c d = elect_Newer a b c d := rfl
theorem refTimeout7 (n t : Int) : mementoref6_Timeout n t = elect_Timeout n t := rfl

theorem m7 {a : Int} (ha : Ik .u8 a) : IntKind.wrap .i64 (Int.tmod a 7) = a % 7 ∧ 0 ≤ a % 7 ∧ a % 7 < 7 ∧ Int.tmod a 7 = a % 7 := by
  have h := ha.u8
  rw [Int.tmod_eq_emod_of_nonneg (by omega), wrap64 (by omega) (by omega)]
  omega

theorem electApart_eq {term a b : Int} (ht : Ik .u32 term) (ha : Ik .u8 a) (hb : Ik .u8 b) : mementolaw7_ElectApart term a b = some true := by
  unfold mementolaw7_ElectApart
  have h0 := ht.u32
  obtain ⟨a1, a2, a3, a4⟩ := m7 ha
  obtain ⟨b1, b2, b3, b4⟩ := m7 hb
  rw [known7, a1, b1, a4, b4, wrap64 (n := term) (by omega) (by omega), timeout7 a2 h0.1, timeout7 b2 h0.1]
  simp only [Option.bind_some, Bool.not_true, Bool.false_eq_true, if_false]
  have e : ((10 + (7 * (a % 7 % 10) + 3 * (term % 10)) % 10 == 10 + (7 * (b % 7 % 10) + 3 * (term % 10)) % 10) == (a % 7 == b % 7)) = true := by
    by_cases h : a % 7 = b % 7
    · rw [h]; simp
    · have : ¬ (10 + (7 * (a % 7 % 10) + 3 * (term % 10)) % 10 = 10 + (7 * (b % 7 % 10) + 3 * (term % 10)) % 10) := by omega
      rw [beq_eq_false_iff_ne.2 this, beq_eq_false_iff_ne.2 h]; rfl
  rw [if_pos e, if_pos (by simp; omega)]
  simp only [Option.bind_some, Option.some.injEq, decide_eq_true_eq]
  omega

theorem electOrders_eq {a0 a1 a2 a3 a4 a5 : Int} (h0 : Ik .u8 a0) (h1 : Ik .u8 a1) (h2 : Ik .u8 a2) (h3 : Ik .u8 a3) (h4 : Ik .u8 a4) (h5 : Ik .u8 a5) : mementolaw7_ElectOrders a0 a1 a2 a3 a4 a5 = some true := by
  unfold mementolaw7_ElectOrders
  rw [known7]
  simp only [Option.bind_some, Bool.not_true, Bool.false_eq_true, if_false, newer7]
  generalize IntKind.wrap .i64 (Int.tmod a0 4) = x0
  generalize IntKind.wrap .i64 (Int.tmod a1 4) = x1
  generalize IntKind.wrap .i64 (Int.tmod a2 4) = x2
  generalize IntKind.wrap .i64 (Int.tmod a3 4) = x3
  generalize IntKind.wrap .i64 (Int.tmod a4 4) = x4
  generalize IntKind.wrap .i64 (Int.tmod a5 4) = x5
  obtain ⟨p, hp⟩ : ∃ p, decide (x0 > x2 ∨ x0 = x2 ∧ x1 ≥ x3) = p := ⟨_, rfl⟩
  obtain ⟨q, hq⟩ : ∃ q, decide (x2 > x0 ∨ x2 = x0 ∧ x3 ≥ x1) = q := ⟨_, rfl⟩
  obtain ⟨r, hr⟩ : ∃ r, decide (x2 > x4 ∨ x2 = x4 ∧ x3 ≥ x5) = r := ⟨_, rfl⟩
  obtain ⟨s, hs⟩ : ∃ s, decide (x0 > x4 ∨ x0 = x4 ∧ x1 ≥ x5) = s := ⟨_, rfl⟩
  obtain ⟨u, hu⟩ : ∃ u, (x0 == x2) = u := ⟨_, rfl⟩
  obtain ⟨v, hv⟩ : ∃ v, (x1 == x3) = v := ⟨_, rfl⟩
  rw [hp, hq, hr, hs, hu, hv]
  cases p <;> cases q <;> cases r <;> cases s <;> cases u <;> cases v <;> first
    | rfl
    | (exfalso; simp at hp hq hr hs hu hv; omega)

/-! the ten Terms -/
theorem loopN_congr {S T : Type} {b c : S → Option (Ctl T S)} (I : S → Prop) (h : ∀ s, I s → b s = c s ∧ ∀ s', c s = some (.go s') → I s') : ∀ (n : Nat) (s : S), I s → loopN b n s = loopN c n s
  | 0, _, _ => rfl
  | n + 1, s, hI => by
    simp only [loopN, (h s hI).1]
    split
    · rfl
    · rfl
    · rename_i s' e; exact loopN_congr I h n s' ((h s hI).2 s' e)

theorem turns70 : (List.range 7).all (fun a => (List.range 10).all fun t => (loopN (mementolaw7_ElectTurns_L1 (a : Int) (t : Int)) fuel (0, List.replicate 20 false)).isSome && (match loopN (mementolaw7_ElectTurns_L1 (a : Int) (t : Int)) fuel (0, List.replicate 20 false) with | some (.go _) => true | _ => false)) = true := by kernel_rfl

theorem electTurns_eq {node term : Int} (hn : Ik .u8 node) (ht : Ik .u32 term) : mementolaw7_ElectTurns node term = some true := by
  unfold mementolaw7_ElectTurns
  have h0 := ht.u32
  have h1 := hn.u8
  obtain ⟨a1, a2, a3, a4⟩ := m7 hn
  have et : ∀ i : Int, 0 ≤ i → i < 1000 → elect_Timeout (IntKind.wrap .i64 (Int.tmod node 7)) (IntKind.wrap .i64 ((IntKind.wrap .i64 term) + i)) = elect_Timeout (IntKind.wrap .i64 (Int.tmod (((node % 7).toNat : Nat) : Int) 7)) (IntKind.wrap .i64 ((IntKind.wrap .i64 (((term % 10).toNat : Nat) : Int)) + i)) := fun i hi hl => by
    rw [a1, Int.toNat_of_nonneg a2, Int.toNat_of_nonneg (by omega), Int.tmod_eq_emod_of_nonneg a2, wrap64 (n := term) (by omega) (by omega), wrap64 (n := term % 10) (by omega) (by omega), wrap64 (n := term + i) (by omega) (by omega), wrap64 (n := term % 10 + i) (by omega) (by omega), wrap64 (n := node % 7 % 7) (by omega) (by omega), timeout7 a2 (by omega), timeout7 (by omega) (by omega)]
    congr 3; omega
  have el : loopN (mementolaw7_ElectTurns_L1 node term) fuel (0, List.replicate 20 false) = loopN (mementolaw7_ElectTurns_L1 (((node % 7).toNat : Nat) : Int) (((term % 10).toNat : Nat) : Int)) fuel (0, List.replicate 20 false) := by
    refine loopN_congr (fun s => 0 ≤ s.1 ∧ s.1 ≤ 10) ?_ fuel _ (by simp)
    rintro ⟨i, l⟩ ⟨hi, hl⟩
    simp only at hi hl
    simp only [mementolaw7_ElectTurns_L1]
    rw [et i hi (by omega)]
    refine ⟨rfl, ?_⟩
    rintro ⟨i', l'⟩ hg
    by_cases hlt : i < 10
    · rw [if_pos (by simpa using hlt)] at hg
      have : i' = IntKind.wrap .i64 (i + 1) := by
        revert hg
        generalize elect_Timeout _ _ = x
        cases x with
        | none => intro h; cases h
        | some y =>
          simp only [Option.bind_some]
          intro h
          obtain ⟨b, _, h⟩ := Option.bind_eq_some_iff.1 h
          cases b with
          | true => simp [early] at h
          | false =>
            simp only [Bool.false_eq_true, if_false] at h
            obtain ⟨_, _, h⟩ := Option.bind_eq_some_iff.1 h
            obtain ⟨_, _, h⟩ := Option.bind_eq_some_iff.1 h
            cases h; rfl
      rw [wrap64 (by omega) (by omega)] at this
      simp only
      omega
    · rw [if_neg (by simpa using hlt)] at hg
      simp [early] at hg
  have hk := List.all_eq_true.1 (List.all_eq_true.1 turns70 (node % 7).toNat (List.mem_range.2 (by omega))) (term % 10).toNat (List.mem_range.2 (by omega))
  rw [Bool.and_eq_true] at hk
  rw [known7, el]
  simp only [Option.bind_some, Bool.not_true, Bool.false_eq_true, if_false]
  have hk2 := hk.2
  split at hk2
  · rename_i me e
    rw [e, kont_go']
    have e0 : elect_Timeout (IntKind.wrap .i64 (Int.tmod node 7)) (IntKind.wrap .i64 term) = some (10 + (7 * (node % 7 % 10) + 3 * (term % 10)) % 10) := by
      rw [a1, wrap64 (n := term) (by omega) (by omega), timeout7 a2 (by omega)]
    have e1 : elect_Timeout (IntKind.wrap .i64 (Int.tmod node 7)) (IntKind.wrap .i64 ((IntKind.wrap .i64 term) + 10)) = some (10 + (7 * (node % 7 % 10) + 3 * (term % 10)) % 10) := by
      rw [a1, wrap64 (n := term) (by omega) (by omega), wrap64 (n := term + 10) (by omega) (by omega), timeout7 a2 (by omega)]
      congr 5; omega
    have e2 : elect_Timeout (IntKind.wrap .i64 (0 - (IntKind.wrap .i64 node))) 0 = some 10 := by
      rw [wrap64 (n := node) (by omega) (by omega), wrap64 (by omega) (by omega)]
      have : elect_part (0 - node) = some 0 := by
        unfold elect_part maxI
        split
        · rfl
        · rw [show 0 - node = 0 by omega]; rfl
      unfold elect_Timeout
      rw [this]
      rfl
    rw [e0, e1, e2]
    simp
  · cases hk2
end Go.Proofs.Yteoalgkckhijlaa.Am
