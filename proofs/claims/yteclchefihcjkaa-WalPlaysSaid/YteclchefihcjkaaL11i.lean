/- All the records from a sector on, read off both disks. -/
import Derived.Test.YteclchefihcjkaaL11h
namespace Go.Proofs.Yteclchefihcjkaa.Am
open Go
set_option linter.unusedVariables false
set_option linter.unusedSimpArgs false
set_option maxRecDepth 100000

/-- Two loops over the same state. -/
theorem loop_two {S T U : Type} {b : S → Option (Ctl T S)} {c : S → Option (Ctl U S)} (I : S → Prop) (m : S → Nat) (Q : T → U → Prop)
    (step : ∀ s, I s → (∃ t u, b s = some (.ret t) ∧ c s = some (.ret u) ∧ Q t u) ∨ ∃ s', b s = some (.go s') ∧ c s = some (.go s') ∧ I s' ∧ m s' < m s) :
    ∀ (n : Nat) (s : S), I s → m s < n → ∃ t u, loopN b n s = some t ∧ loopN c n s = some u ∧ Q t u
  | 0, s, _, h => absurd h (Nat.not_lt_zero _)
  | n + 1, s, hI, hm => by
    simp only [loopN]
    rcases step s hI with ⟨t, u, h, h', q⟩ | ⟨s', h, h', h1, h2⟩
    · rw [h, h']; exact ⟨t, u, rfl, rfl, q⟩
    · rw [h, h']
      exact loop_two I m Q step n s' h1 (by omega)

section
variable {d : Pdisk_Disk} {w : Mementoref3_Disk} {g : Nat}

theorem hdK_pos (d : Pdisk_Disk) (i : Nat) : 1 ≤ hdK d i := by unfold hdK hdN; omega

theorem scan11 (h : Rel d w) (hw : w.l.length ≤ 10000) (hg : g < 18446744073709551616) {a b : Int} (ha : a ≤ 1000) (hb : b ≤ 9223372036854775807) :
    ∃ o e, wal_Scan d a b g = some (o, e) ∧ mementoref3_Scan w a b g = some (o, e) ∧ o.length ≤ 1000 := by
  unfold wal_Scan mementoref3_Scan
  by_cases a0 : a < 0
  · rw [if_pos (by simpa using a0)]
    have e1 : loopN (wal_Scan_L1 d b g) fuel (a, ([] : List (List Int))) = some (a, []) := by
      refine loop_eqF (fun s => s = (a, [])) (fun _ => 0) (fun _ => (a, [])) rfl (by omega) ?_
      rintro _ rfl
      left
      simp only [wal_Scan_L1]
      have : wal_one d a b g = some ([], 0, false) := by
        unfold wal_one
        rw [if_pos (by simpa using a0), Option.bind_some, if_pos rfl]
      rw [this]
      rfl
    rw [e1]
    exact ⟨[], a, rfl, rfl, by simp⟩
  rw [if_neg (by simpa using a0)]
  obtain ⟨i, rfl⟩ := Int.eq_ofNat_of_zero_le (show 0 ≤ a by omega)
  have c1 : ∀ j : Nat, j ≤ 1100 → wal_one d j b g = some (if isRec d g j b.toNat = true then (bodyR d j, (hdK d j : Int), true) else ([], 0, false)) := fun j hj => by
    by_cases b0 : 0 ≤ b
    · have := one_code (g := g) (i := j) (n := b.toNat) h (by omega) (by omega)
      rw [Int.toNat_of_nonneg b0] at this
      exact this
    · unfold wal_one
      rw [if_neg (by simp), decide_eq_true (show (j : Int) ≥ b by omega), Option.bind_some, if_pos rfl]
      unfold isRec
      rw [decide_eq_false (show ¬ (j < b.toNat ∧ j < 20) by omega)]
      rfl
  have c2 : ∀ j : Nat, j ≤ 1100 → mementoref3_one w j (minI b (w.S.length : Int)) g = some (if isRec d g j b.toNat = true then (bodyR d j, (hdK d j : Int)) else ([], 0)) := fun j hj => by
    rw [h.sl]
    by_cases b0 : 0 ≤ b
    · have := one_ref (g := g) (i := j) (n := b.toNat) h hw hg (by omega) (by omega)
      rw [Int.toNat_of_nonneg b0] at this
      exact this
    · have hm : minI b ((20 : Nat) : Int) = b := by unfold minI; split <;> omega
      rw [hm]
      unfold mementoref3_one
      have : loopN (mementoref3_one_L1 w j b g) fuel (([] : List Int), (j : Int)) = some (Ctl.go () : Ctl (List Int × Int) Unit) := by
        refine loop_eqF (fun s => s = ([], (j : Int))) (fun _ => 0) (fun _ => Ctl.go ()) rfl (by omega) ?_
        rintro _ rfl
        left
        simp only [mementoref3_one_L1]
        rw [if_neg (by simp only [decide_eq_true_eq]; omega)]
        rfl
      rw [this, kont_go']
      unfold isRec
      rw [decide_eq_false (show ¬ (j < b.toNat ∧ j < 20) by omega)]
      rfl
  have key := loop_two (b := wal_Scan_L1 d b g) (c := mementoref3_Scan_L1 w b g) (fun s => ∃ (j : Nat) (o : List (List Int)), s = ((j : Int), o) ∧ j ≤ 1000 ∧ o.length ≤ j) (fun s => 2000 - s.1.toNat)
    (fun t u => t = (u.2, u.1) ∧ u.1.length ≤ 1000) (by
      rintro _ ⟨j, o, rfl, hj, ho⟩
      simp only [wal_Scan_L1, mementoref3_Scan_L1]
      rw [c1 j (by omega), c2 j (by omega)]
      by_cases q : isRec d g j b.toNat = true
      · right
        have hk := hdK_pos d j
        have hr : j + hdK d j ≤ 20 := by
          unfold isRec at q
          simp only [Bool.and_eq_true, decide_eq_true_eq] at q
          exact q.2.2.2.1.2
        rw [if_pos q, if_pos q, Option.bind_some, Option.bind_some]
        simp only
        rw [if_neg (by simp), if_neg (by simp only [beq_iff_eq]; omega), app_of (by simp; omega) (by simp; omega), Option.bind_some, wrap64 (n := (j : Int) + hdK d j) (by omega) (by omega)]
        exact ⟨_, rfl, rfl, ⟨j + hdK d j, _, by rw [show ((j + hdK d j : Nat) : Int) = (j : Int) + hdK d j by omega], by omega, by simp; omega⟩, by simp only; omega⟩
      · left
        rw [if_neg q, if_neg q]
        exact ⟨_, _, rfl, rfl, rfl, by simp only; omega⟩) fuel ((i : Int), []) ⟨i, [], rfl, by omega, by simp⟩ (by simp only; unfold fuel; omega)
  obtain ⟨t, u, e1, e2, rfl, hl⟩ := key
  rw [e1, e2]
  exact ⟨u.1, u.2, rfl, rfl, hl⟩
end

theorem bodies_self {l : List (List Int)} (h : l.length ≤ 1000) : mementohelp_Bodies l l = some true := by
  unfold mementohelp_Bodies
  rw [if_neg (by simp)]
  rw [loop_eqF (s := (0 : Int)) (fun s => ∃ k : Nat, k ≤ l.length ∧ s = (k : Int)) (fun s => l.length - s.toNat) (fun _ => .go ()) ⟨0, by omega, rfl⟩ (by simp; omega)]
  · rfl
  rintro _ ⟨k, hk, rfl⟩
  simp only [mementohelp_Bodies_L1]
  by_cases c : k < l.length
  · right
    rw [if_pos (by simpa using c), idx_at c, Option.bind_some, Option.bind_some, if_neg (by simp), next3 (by omega)]
    exact ⟨_, rfl, ⟨k + 1, c, rfl⟩, by simp only [Int.toNat_natCast]; omega, trivial⟩
  · left
    rw [if_neg (by simpa using c)]; rfl

/-- A whole number, brought below another. -/
theorem place_eq {k : Int} {n : Nat} (hk : Ik .i64 k) (h0 : 0 < n) (hn : n ≤ 1000) : ∃ r : Nat, r < n ∧ mementohelp_Place k n = some (r : Int) := by
  have m2 : IntKind.i64.max = 9223372036854775807 := by decide
  have m1 : IntKind.i64.min = -9223372036854775808 := by decide
  obtain ⟨x, y⟩ := hk
  unfold mementohelp_Place remI
  rw [if_neg (by omega), Option.bind_some]
  have q1 := Int.tmod_lt_of_pos k (show (0 : Int) < n by omega)
  have q2 : -(n : Int) < Int.tmod k n := by
    have := Int.tmod_lt_of_pos (-k) (show (0 : Int) < n by omega)
    rw [Int.neg_tmod] at this
    omega
  by_cases c : Int.tmod k n < 0
  · rw [if_pos (by simpa using c), wrap64 (by omega) (by omega)]
    exact ⟨(Int.tmod k n + n).toNat, by omega, by rw [Int.toNat_of_nonneg (by omega)]; rfl⟩
  · rw [if_neg (by simpa using c)]
    exact ⟨(Int.tmod k n).toNat, by omega, by rw [Int.toNat_of_nonneg (by omega)]; rfl⟩
end Go.Proofs.Yteclchefihcjkaa.Am
