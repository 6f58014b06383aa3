/- Records, read again off two disks that hold the same. -/
import Derived.Test.YteclchefihcjkaaL11e
namespace Go.Proofs.Yteclchefihcjkaa.Am
open Go
set_option linter.unusedVariables false
set_option linter.unusedSimpArgs false
set_option maxRecDepth 100000

/-! a sector's piece -/
theorem part_eq {d : Pdisk_Disk} (hd : DiskOk d) {j : Nat} (hj : (j : Int) < d.n) {g : Int} {G : List Int} (hg : wal_num g = some G) (hG : G.length = 8) :
    wal_part d j g = some (if strOf ((rdD d j).take 8) == strOf G && strOf ((rdD d j).drop 56) == strOf G then ((rdD d j).drop 8).take 48 else [], strOf ((rdD d j).take 8) == strOf G && strOf ((rdD d j).drop 56) == strOf G) := by
  unfold wal_part
  have hl := hd.rd_len (j : Int)
  rw [read_eq hd ⟨by omega, hj⟩, Option.bind_some, hg, Option.bind_some]
  generalize rdD d (j : Int) = X at *
  have z0 : ((0 : Nat) : Int) = 0 := rfl
  have s1 : slc X 0 (G.length : Int) = some (X.take 8) := by rw [← z0, slc_nat _ (by omega) (by omega), List.drop_zero, hG]
  have s2 : slc X (IntKind.wrap .i64 ((X.length : Int) - (G.length : Int))) (X.length : Int) = some (X.drop 56) := by
    rw [wrap64 (by omega) (by omega), show (X.length : Int) - (G.length : Int) = ((56 : Nat) : Int) by omega, slc_nat _ (by omega) (by omega), List.take_length]
  have s3 : slc X 8 56 = some ((X.drop 8).take 48) := by
    have := slc_nat X (show 8 ≤ 56 by omega) (by omega)
    rw [show ((8 : Nat) : Int) = 8 by rfl, show ((56 : Nat) : Int) = 56 by rfl] at this
    rw [this, List.drop_take]
  have hp : bytes_HasPrefix X G = some (strOf (X.take 8) == strOf G) := by
    unfold bytes_HasPrefix
    rw [if_pos (by simp; omega), s1]
    rfl
  have hs : bytes_HasSuffix X G = some (strOf (X.drop 56) == strOf G) := by
    unfold bytes_HasSuffix
    rw [if_pos (by simp; omega), s2]
    rfl
  have hn : ((X.length : Int) != 64) = false := by rw [hl]; rfl
  rw [hp, Option.bind_some]
  cases strOf (X.take 8) == strOf G with
  | false => simp
  | true =>
    rw [hs, hn, s3]
    cases strOf (X.drop 56) == strOf G with
    | false => simp
    | true => simp
theorem refnum_eq {b : List Int} (hl : 8 ≤ b.length) (hb : Byt b) : mementoref3_number b = some (leV (b.take 8) : Int) := by
  unfold mementoref3_number
  have hbm : ∀ j (h : j < (b.take 8).length), idx b (j : Int) = some (b.take 8)[j] := fun j h => by
    have h' := h
    rw [List.length_take] at h'
    rw [idx_at (by omega), List.getElem_take]
  generalize hm : b.take 8 = m at hbm ⊢
  have ml : m.length = 8 := by rw [← hm, List.length_take]; omega
  have mb : Byt m := fun x h => hb x (List.mem_of_mem_take (hm ▸ h))
  rw [loop_eqF (s := (0, 7)) (fun s => ∃ j : Nat, j ≤ 8 ∧ s = ((leV (m.drop j) : Int), (j : Int) - 1)) (fun s => (s.2 + 1).toNat) (fun _ => (leV m : Int)) ⟨8, by omega, by rw [List.drop_of_length_le (by omega)]; rfl⟩ (by simp)]
  · rfl
  rintro _ ⟨j, hj, rfl⟩
  simp only [mementoref3_number_L1]
  by_cases h : 0 < j
  · right
    obtain ⟨i, rfl⟩ : ∃ i, j = i + 1 := ⟨j - 1, by omega⟩
    have hx := mb _ (List.getElem_mem (show i < m.length by omega))
    rw [if_pos (by simp <;> omega), show ((i + 1 : Nat) : Int) - 1 = (i : Int) by omega, hbm i (by omega), Option.bind_some, wrap64 (by omega) (by omega)]
    have lt := leV_lt (l := m.drop (i + 1)) (fun x h => mb x (List.mem_of_mem_drop h))
    rw [List.length_drop, ml] at lt
    have p1 := pw_le (show 8 - (i + 1) ≤ 7 by omega)
    have p2 : (256 : Nat) ^ 7 = 72057594037927936 := by decide
    obtain ⟨x, hxe⟩ := Int.eq_ofNat_of_zero_le hx.1
    have hx256 : x < 256 := by omega
    have hw : shlI .u64 (leV (m.drop (i + 1)) : Int) 8 = ((256 * leV (m.drop (i + 1)) : Nat) : Int) := by
      unfold shlI
      rw [show (leV (m.drop (i + 1)) : Int) * 2 ^ 8 = ((256 * leV (m.drop (i + 1)) : Nat) : Int) by omega, wrap64u (by omega) (by omega)]
    have hor : Go.bits .or .u64 ((256 * leV (m.drop (i + 1)) : Nat) : Int) (x : Int) = (leV (m.drop i) : Int) := by
      rw [bits_join .u64 64 (by decide) wraps_u64 8 _ _ (by omega) (by omega) (by omega) (by omega) (by omega) (by omega)]
      rw [List.drop_eq_getElem_cons (show i < m.length by omega), leV, hxe]
      simp only [Int.toNat_natCast]
      omega
    rw [hw, hxe, wrap64u (n := (x : Int)) (by omega) (by omega), hor]
    exact ⟨_, rfl, ⟨i, by omega, rfl⟩, by simp only; omega, trivial⟩
  · left
    have : j = 0 := by omega
    subst this
    rw [if_neg (by simp)]
    rfl


theorem leB_leV : ∀ {l : List Int}, Byt l → leB l.length (leV l) = l
  | [], _ => rfl
  | x :: l, h => by
    have hx := h x (List.mem_cons_self ..)
    have ih := leB_leV (l := l) fun y hy => h y (List.mem_cons_of_mem _ hy)
    simp only [List.length_cons, leB, leV]
    rw [show (x.toNat + 256 * leV l) % 256 = x.toNat by omega, show (x.toNat + 256 * leV l) / 256 = leV l by omega, ih]
    congr 1
    omega

/-- Is a sector of a time? -/
def okS (g : Nat) (X : List Int) : Bool := strOf (X.take 8) == strOf (leB 8 g) && strOf (X.drop 56) == strOf (leB 8 g)
def pc (X : List Int) : List Int := (X.drop 8).take 48
theorem pc_len {X : List Int} (h : X.length = 64) : (pc X).length = 48 := by unfold pc; rw [List.length_take, List.length_drop]; omega

theorem ok_num {g : Nat} (hg : g < 18446744073709551616) {l : List Int} (hb : Byt l) (hl : l.length = 8) : (strOf l == strOf (leB 8 g)) = (((leV l : Nat) : Int) == (g : Int)) := by
  by_cases h : leV l = g
  · have e : leB 8 g = l := by rw [← h, ← hl]; exact leB_leV hb
    rw [e, h]; simp
  · have e1 : (((leV l : Nat) : Int) == (g : Int)) = false := by rw [beq_eq_false_iff_ne]; omega
    rw [e1, beq_eq_false_iff_ne]
    intro e
    have := strOf_inj hb (leB_byt 8 g) e
    apply h
    rw [this, leV_leB 8 g (by omega)]

section
variable {d : Pdisk_Disk} {w : Mementoref3_Disk} {g : Nat}

theorem part11 (h : Rel d w) (i : Nat) : wal_part d i g = some (if i < 20 ∧ okS g (rdD d i) = true then pc (rdD d i) else [], decide (i < 20) && okS g (rdD d i)) := by
  by_cases hi : i < 20
  · rw [part_eq h.ok (by rw [h.nn]; omega) (num_eq g) (leB_len 8 g)]
    unfold okS pc
    cases hq : (strOf ((rdD d i).take 8) == strOf (leB 8 g) && strOf ((rdD d i).drop 56) == strOf (leB 8 g)) <;> simp [hi, hq]
  · unfold wal_part
    rw [read_out (by rw [h.nn]; omega), Option.bind_some, num_eq, Option.bind_some]
    have l8 := leB_len 8 g
    have hp : bytes_HasPrefix [] (leB 8 g) = some false := by unfold bytes_HasPrefix; rw [l8, if_neg (by decide)]; rfl
    rw [hp]
    simp [hi]
theorem ref_ok (h : Rel d w) (hg : g < 18446744073709551616) {i : Nat} (hi : i < 20) :
    ((mementoref3_number (rdD d i)).bind fun y24 => (if (y24 != (g : Int)) then (some true) else ((slc (rdD d i) 56 ((rdD d i).length : Int)).bind fun m => ((mementoref3_number m).bind fun y26 => (some (y26 != (g : Int))))))) = some (!okS g (rdD d i)) := by
  have hl := h.ok.rd_len (i : Int)
  have hb := h.byt i hi
  have s1 : slc (rdD d i) 56 ((rdD d i).length : Int) = some ((rdD d i).drop 56) := by
    have := slc_nat (rdD d i) (show 56 ≤ (rdD d i).length by omega) (Nat.le_refl _)
    rw [show ((56 : Nat) : Int) = 56 from rfl] at this
    rw [this, List.take_length]
  have ht : (((rdD d i).drop 56).take 8) = (rdD d i).drop 56 := List.take_of_length_le (by rw [List.length_drop]; omega)
  have n1 := refnum_eq (b := rdD d i) (by omega) hb
  have n2 := refnum_eq (b := (rdD d i).drop 56) (by rw [List.length_drop]; omega) (hb.drop 56)
  rw [ht] at n2
  have o1 := ok_num hg (hb.take 8) (by rw [List.length_take]; omega)
  have o2 := ok_num hg (hb.drop 56) (by rw [List.length_drop]; omega)
  unfold okS
  rw [o1, o2, n1, Option.bind_some]
  by_cases c : (((leV ((rdD d i).take 8) : Nat) : Int)) = (g : Int)
  · have e : ((((leV ((rdD d i).take 8) : Nat) : Int)) != (g : Int)) = false := by rw [c]; simp
    have e2 : ((((leV ((rdD d i).take 8) : Nat) : Int)) == (g : Int)) = true := by rw [c]; simp
    rw [e, e2, if_neg (by simp), s1, Option.bind_some, n2, Option.bind_some, Bool.true_and]
    rfl
  · have e : ((((leV ((rdD d i).take 8) : Nat) : Int)) != (g : Int)) = true := by simpa using c
    have e2 : ((((leV ((rdD d i).take 8) : Nat) : Int)) == (g : Int)) = false := by simpa using c
    rw [e, e2, if_pos rfl, Bool.false_and]
    rfl

/-- The pieces of so many sectors, one behind another. -/
def pcs (d : Pdisk_Disk) (i : Nat) : Nat → List Int
  | 0 => []
  | m + 1 => pcs d i m ++ pc (rdD d ((i + m : Nat) : Int))
theorem pcs_len (h : DiskOk d) (i : Nat) : ∀ m, (pcs d i m).length = 48 * m
  | 0 => rfl
  | m + 1 => by rw [pcs, List.length_append, pcs_len h, pc_len (h.rd_len _)]; omega
theorem pcs_byt (h : Rel d w) (i : Nat) : ∀ m, i + m ≤ 20 → Byt (pcs d i m)
  | 0, _ => fun x hx => by cases hx
  | m + 1, hm => (pcs_byt h i m (by omega)).app (((h.byt (i + m) (by omega)).drop 8).take 48)
def allOk (d : Pdisk_Disk) (g i : Nat) : Nat → Bool
  | 0 => true
  | m + 1 => allOk d g i m && okS g (rdD d ((i + m : Nat) : Int))
theorem allOk_at {i m : Nat} : ∀ {k : Nat}, m < k → allOk d g i k = true → okS g (rdD d ((i + m : Nat) : Int)) = true
  | 0, hm, _ => by omega
  | k + 1, hm, h => by
    rw [allOk, Bool.and_eq_true] at h
    by_cases e : m = k
    · subst e; exact h.2
    · exact allOk_at (k := k) (by omega) h.1

/-! the first number of more and more bytes -/
theorem nR_app (m : List Int) : ∀ (l : List Int) (i : Nat) (n : Int) (q : Int × Nat × Int), nR l i n = .ret q → nR (l ++ m) i n = .ret q
  | [], i, n, q, h => by cases h
  | c :: l, i, n, q, h => by
    rw [List.cons_append]
    unfold nR at h ⊢
    split
    · rename_i a; rw [if_pos a] at h; exact h
    · rename_i a
      rw [if_neg a] at h
      split
      · rename_i a2; rw [if_pos a2] at h; exact nR_app m l _ _ q h
      · rename_i a2
        rw [if_neg a2] at h
        split
        · rename_i a3; rw [if_pos a3] at h; exact h
        · rename_i a3; rw [if_neg a3] at h; exact h
theorem numR_app {l m : List Int} {most v : Int} {rest : List Int} (h : numR (l, 0) most = (v, (rest, 0))) : numR (l ++ m, 0) most = (v, (rest ++ m, 0)) ∧ ∃ s, s ≤ l.length ∧ rest = l.drop s ∧ 0 ≤ v ∧ v ≤ most := by
  unfold numR at h ⊢
  simp only [ne_eq, not_true_eq_false, if_false] at h ⊢
  have sp := nR_spec l 0 0 (by omega) (by omega)
  cases hq : nR l 0 0 with
  | go u => rw [hq] at h; simp at h
  | ret q =>
    obtain ⟨v', s, e⟩ := q
    rw [hq] at h sp
    rw [nR_app m l 0 0 _ hq]
    simp only at h sp ⊢
    by_cases he : e = 0
    · subst he
      simp only [not_true_eq_false, if_false] at h ⊢
      by_cases hv : v' > most
      · rw [if_pos hv] at h; simp at h
      · rw [if_neg hv] at h ⊢
        simp only [Prod.mk.injEq] at h
        obtain ⟨rfl, rfl, _⟩ := h
        have hs := sp.2.2.1 rfl
        refine ⟨?_, s, by omega, rfl, sp.1, by omega⟩
        rw [List.drop_append_of_le_length (by omega)]
    · rw [if_pos he] at h
      simp only [Prod.mk.injEq] at h
      exact absurd h.2.2 he
theorem numR_err {l : List Int} {most : Int} (h : (numR (l, 0) most).2.2 = 0) : ∃ v rest, numR (l, 0) most = (v, (rest, 0)) := by
  rcases hq : numR (l, 0) most with ⟨v, rest, e⟩
  rw [hq] at h
  simp only at h
  subst h
  exact ⟨v, rest, rfl⟩
end
end Go.Proofs.Yteclchefihcjkaa.Am
