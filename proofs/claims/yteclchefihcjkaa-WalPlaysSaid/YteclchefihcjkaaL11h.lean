/- One record, read off both disks. -/
import Derived.Test.YteclchefihcjkaaL11f
namespace Go.Proofs.Yteclchefihcjkaa.Am
open Go
set_option linter.unusedVariables false
set_option linter.unusedSimpArgs false
set_option maxRecDepth 100000

section
variable {d : Pdisk_Disk} {w : Mementoref3_Disk} {g i : Nat}

/-- The first number of a record at a sector. -/
def hdV (d : Pdisk_Disk) (i : Nat) : Int × Rd := numR (pc (rdD d i), 0) 65535
/-- How many bytes it has, then. -/
def hdN (d : Pdisk_Disk) (i : Nat) : Nat := 48 - (hdV d i).2.1.length + (hdV d i).1.toNat + 4
def hdK (d : Pdisk_Disk) (i : Nat) : Nat := (hdN d i + 47) / 48
/-- Is a record there? -/
def isRec (d : Pdisk_Disk) (g i n : Nat) : Bool :=
  decide (i < n ∧ i < 20) && (okS g (rdD d i) && (decide ((hdV d i).2.2 = 0) && (decide (i + hdK d i ≤ n ∧ i + hdK d i ≤ 20) && (allOk d g i (hdK d i) && (openL ((pcs d i (hdK d i)).take (hdN d i))).2))))
/-- Its body. -/
def bodyR (d : Pdisk_Disk) (i : Nat) : List Int := (openL ((pcs d i (hdK d i)).take (hdN d i))).1.drop (48 - (hdV d i).2.1.length)

theorem hd_ok (h : Rel d w) (hi : i < 20) (he : (hdV d i).2.2 = 0) : ∃ (v : Nat) (rest : List Int), hdV d i = ((v : Int), (rest, 0)) ∧ v ≤ 65535 ∧ rest.length ≤ 48 ∧ hdN d i = 48 - rest.length + v + 4 := by
  obtain ⟨v, rest, e⟩ := numR_err he
  have hl := pc_len (h.ok.rd_len (i : Int))
  obtain ⟨_, s, hs, hr, h0, h1⟩ := numR_app (m := []) e
  have e' : hdV d i = (v, (rest, 0)) := e
  refine ⟨v.toNat, rest, by rw [e', Int.toNat_of_nonneg h0], by omega, by rw [hr, List.length_drop]; omega, ?_⟩
  unfold hdN
  rw [e']

theorem pcs_one (d : Pdisk_Disk) (i : Nat) : pcs d i 1 = pc (rdD d i) := by simp [pcs]
theorem pcs_more (d : Pdisk_Disk) (i : Nat) : ∀ m, ∃ x, pcs d i (m + 1) = pc (rdD d i) ++ x
  | 0 => ⟨[], by rw [pcs_one]; simp⟩
  | m + 1 => by
    obtain ⟨x, hx⟩ := pcs_more d i m
    exact ⟨x ++ pc (rdD d ((i + (m + 1) : Nat) : Int)), by rw [pcs, hx, List.append_assoc]⟩

/-- The number is the same, whatever stands behind its piece. -/
theorem num_pcs (h : Rel d w) (hi : i < 20) {m : Nat} (hm : i + (m + 1) ≤ 20) {v : Nat} {rest : List Int} (e : hdV d i = ((v : Int), (rest, 0))) :
    ∃ x, mementoref1_Reader_Num ⟨pcs d i (m + 1), 0⟩ 65535 = some ((v : Int), ⟨rest ++ x, 0⟩) ∧ rest.length + x.length + 48 = rest.length + 48 * (m + 1) := by
  obtain ⟨x, hx⟩ := pcs_more d i m
  have hl := pcs_len h.ok i (m + 1)
  have hp := pc_len (h.ok.rd_len (i : Int))
  have hb := pcs_byt h i (m + 1) hm
  obtain ⟨ea, _⟩ := numR_app (m := x) e
  have := refNum_eq (r := (pcs d i (m + 1), 0)) ⟨hb, by simp only; omega⟩ 65535
  rw [show ((pcs d i (m + 1), 0) : Rd) = (pc (rdD d i) ++ x, 0) by rw [hx], ea] at this
  refine ⟨x, ?_, ?_⟩
  · rw [hx]; exact this
  · rw [hx, List.length_append] at hl; omega

theorem openL_len {b : List Int} (h : (openL b).2 = true) : (openL b).1.length = b.length - 4 := by
  unfold openL at h ⊢
  split
  · rw [List.length_take]; omega
  · rename_i q; rw [if_neg q] at h; cases h

/-- The code's. -/
theorem one_code (h : Rel d w) {n : Nat} (hn : n ≤ 9223372036854775807) (hi : i ≤ 2000) : wal_one d i n g = some (if isRec d g i n = true then (bodyR d i, (hdK d i : Int), true) else ([], 0, false)) := by
  unfold wal_one isRec
  rw [if_neg (by simp)]
  by_cases c1 : i < n
  rotate_left
  · rw [decide_eq_true (show (i : Int) ≥ n by omega), Option.bind_some, if_pos rfl, decide_eq_false (show ¬ (i < n ∧ i < 20) by omega)]
    rfl
  rw [decide_eq_false (show ¬ (i : Int) ≥ n by omega), Option.bind_some, if_neg (by simp), part11 h i, Option.bind_some]
  simp only
  by_cases c2 : i < 20
  rotate_left
  · rw [decide_eq_false (show ¬ (i < 20) from c2), decide_eq_false (show ¬ (i < n ∧ i < 20) by omega)]
    rfl
  rw [decide_eq_true c2, decide_eq_true (show i < n ∧ i < 20 from ⟨c1, c2⟩)]
  simp only [Bool.true_and]
  by_cases c3 : okS g (rdD d i) = true
  rotate_left
  · rw [Bool.eq_false_iff.2 c3]
    rfl
  have hp := pc_len (h.ok.rd_len (i : Int))
  have hpb : Byt (pc (rdD d i)) := ((h.byt i c2).drop 8).take 48
  rw [c3, if_pos (show i < 20 ∧ true = true from ⟨c2, rfl⟩), if_neg (by simp)]
  have e1 : pack_New (pc (rdD d i)) = some (rdP (pc (rdD d i), 0)) := by
    unfold pack_New slices_Clone_Lbyte_byte
    rw [app_of (by simp; omega) (by simp; omega)]
    rfl
  rw [e1, Option.bind_some, packNum_eq (r := (pc (rdD d i), 0)) ⟨hpb, by simp only; omega⟩ 65535, Option.bind_some]
  rw [show numR (pc (rdD d i), 0) 65535 = hdV d i from rfl]
  have e2 : pack_rest_Left (rdP (hdV d i).2).rest = some ((hdV d i).2.1.length : Int) := rfl
  have e3 : pack_rest_Err (rdP (hdV d i).2).rest = some (hdV d i).2.2 := rfl
  rw [e2, Option.bind_some, e3, Option.bind_some]
  by_cases c4 : (hdV d i).2.2 = 0
  rotate_left
  · rw [if_pos (by simpa using c4), Option.bind_some, if_pos rfl, decide_eq_false c4]
    rfl
  obtain ⟨v, rest, ev, hv, hrl, hN⟩ := hd_ok h c2 c4
  rw [ev]
  simp only
  have hK : hdK d i = (hdN d i + 47) / 48 := rfl
  have en : IntKind.wrap .i64 ((IntKind.wrap .i64 ((IntKind.wrap .i64 (((pc (rdD d i)).length : Int) - (rest.length : Int))) + (IntKind.wrap .i64 (v : Int)))) + 4) = (hdN d i : Int) := by
    rw [hp, wrap64 (n := ((48 : Nat) : Int) - rest.length) (by omega) (by omega), wrap64 (n := (v : Int)) (by omega) (by omega), wrap64 (n := ((48 : Nat) : Int) - rest.length + v) (by omega) (by omega), wrap64 (by omega) (by omega), hN]
    omega
  have es : wal_sectors (hdN d i : Int) = some (hdK d i : Int) := by rw [sectors_eq (by omega) (by omega), hK]; congr 1
  have hn4 : 4 ≤ hdN d i := by omega
  rw [if_neg (by simp), en, es, Option.bind_some, wrap64 (n := (n : Int) - i) (by omega) (by omega), Option.bind_some, decide_eq_true trivial]
  simp only [Bool.true_and]
  by_cases c5 : i + hdK d i ≤ n
  rotate_left
  · rw [decide_eq_true (show (hdK d i : Int) > (n : Int) - i by omega), if_pos rfl, decide_eq_false (show ¬ (i + hdK d i ≤ n ∧ i + hdK d i ≤ 20) by omega)]
    rfl
  rw [decide_eq_false (show ¬ (hdK d i : Int) > (n : Int) - i by omega), if_neg (by simp)]
  -- the other sectors
  have hloop : ∃ t, loopN (wal_one_L1 d i g (pc (rdD d i)) v (rest.length : Int)) fuel (pc (rdD d i), 1) = some t ∧
      ((t = .go (pcs d i (hdK d i)) ∧ i + hdK d i ≤ 20 ∧ allOk d g i (hdK d i) = true) ∨ (t = .ret ([], 0, false) ∧ ¬ (i + hdK d i ≤ 20 ∧ allOk d g i (hdK d i) = true))) := by
    refine loop_QF (fun s => ∃ m : Nat, 1 ≤ m ∧ m ≤ hdK d i ∧ i + m ≤ 20 ∧ allOk d g i m = true ∧ s = (pcs d i m, (m : Int))) (fun s => 2000 - s.2.toNat) _ ⟨1, Nat.le_refl _, by omega, by omega, by simp [allOk, c3], by rw [pcs_one]; rfl⟩ (by simp) ?_
    rintro _ ⟨m, hm1, hm2, hm3, hm4, rfl⟩
    have hml := pcs_len h.ok i m
    simp only [wal_one_L1]
    rw [en]
    by_cases q : m < hdK d i
    · rw [if_pos (by simp; omega), wrap64 (n := (i : Int) + m) (by omega) (by omega), show (i : Int) + m = ((i + m : Nat) : Int) by omega, part11 h (i + m), Option.bind_some]
      simp only
      by_cases q2 : i + m < 20 ∧ okS g (rdD d ((i + m : Nat) : Int)) = true
      · right
        rw [if_pos q2, decide_eq_true q2.1, q2.2, if_neg (by simp), join_eq (by simp) (by simp [hml, pc_len (h.ok.rd_len _)]; omega), Option.bind_some, next3 (by omega)]
        refine ⟨_, rfl, ⟨m + 1, by omega, q, by omega, by rw [allOk, hm4, q2.2]; rfl, ?_⟩, by simp only [Int.toNat_natCast]; omega⟩
        simp [pcs]
      · left
        have eb : (decide (i + m < 20) && okS g (rdD d ((i + m : Nat) : Int))) = false := by
          rw [Bool.eq_false_iff]
          intro e
          rw [Bool.and_eq_true, decide_eq_true_eq] at e
          exact q2 e
        rw [eb, if_pos (by simp)]
        refine ⟨_, rfl, .inr ⟨rfl, fun e => q2 ⟨by omega, allOk_at q e.2⟩⟩⟩
    · left
      have : m = hdK d i := by omega
      subst this
      rw [if_neg (by simp; omega)]
      exact ⟨_, rfl, .inl ⟨rfl, hm3, hm4⟩⟩
  obtain ⟨t, ht, hq⟩ := hloop
  rw [ht]
  rcases hq with ⟨rfl, q1, q2⟩ | ⟨rfl, q⟩
  rotate_left
  · rw [kont_ret]
    by_cases c6 : i + hdK d i ≤ 20
    · have : allOk d g i (hdK d i) = false := Bool.eq_false_iff.2 fun e => q ⟨c6, e⟩
      rw [this]
      simp
    · rw [decide_eq_false (show ¬ (i + hdK d i ≤ n ∧ i + hdK d i ≤ 20) by omega)]
      rfl
  rw [kont_go', decide_eq_true (show i + hdK d i ≤ n ∧ i + hdK d i ≤ 20 from ⟨c5, q1⟩), q2]
  simp only [Bool.true_and]
  have hpl := pcs_len h.ok i (hdK d i)
  have hpB := pcs_byt h i (hdK d i) q1
  have z0 : ((0 : Nat) : Int) = 0 := rfl
  have hbl : ((pcs d i (hdK d i)).take (hdN d i)).length = hdN d i := by rw [List.length_take]; omega
  rw [← z0, slc_nat _ (by omega) (by omega), List.drop_zero, Option.bind_some, (open_eq (hpB.take _) (by omega) (by omega)).1, Option.bind_some]
  by_cases c7 : (openL ((pcs d i (hdK d i)).take (hdN d i))).2 = true
  rotate_left
  · rw [Bool.eq_false_iff.2 c7]
    rfl
  have hol := openL_len c7
  rw [c7, if_neg (by simp), hp, wrap64 (n := ((48 : Nat) : Int) - rest.length) (by omega) (by omega), show ((48 : Nat) : Int) - (rest.length : Int) = ((48 - rest.length : Nat) : Int) by omega, slc_nat _ (by omega) (by omega), List.take_length, Option.bind_some, if_pos rfl]
  unfold bodyR
  rw [ev]
  rfl

/-- The document's. -/
theorem one_ref (h : Rel d w) (hw : w.l.length ≤ 10000) (hg : g < 18446744073709551616) {n : Nat} (hn : n ≤ 9223372036854775807) (hi : i ≤ 2000) : mementoref3_one w i (minI (n : Int) 20) g = some (if isRec d g i n = true then (bodyR d i, (hdK d i : Int)) else ([], 0)) := by
  have hmin : minI (n : Int) 20 = ((min n 20 : Nat) : Int) := by unfold minI; split <;> omega
  rw [hmin]
  unfold mementoref3_one
  obtain ⟨RES, hRES⟩ : ∃ RES : List Int × Int, (if isRec d g i n = true then (bodyR d i, (hdK d i : Int)) else ([], 0)) = RES := ⟨_, rfl⟩
  rw [hRES]
  have hrec : ∀ m : Nat, isRec d g i n = true → i < n ∧ i < 20 ∧ (hdV d i).2.2 = 0 ∧ i + hdK d i ≤ n ∧ i + hdK d i ≤ 20 ∧ allOk d g i (hdK d i) = true ∧ (openL ((pcs d i (hdK d i)).take (hdN d i))).2 = true := fun _ q => by
    unfold isRec at q
    simp only [Bool.and_eq_true, decide_eq_true_eq] at q
    exact ⟨q.1.1, q.1.2, q.2.2.1, q.2.2.2.1.1, q.2.2.2.1.2, q.2.2.2.2.1, q.2.2.2.2.2⟩
  have hno : ∀ m : Nat, ¬ (isRec d g i n = true) → RES = ([], 0) := fun _ q => by rw [← hRES, if_neg q]
  obtain ⟨t, ht, hq⟩ := loop_QF (b := mementoref3_one_L1 w i ((min n 20 : Nat) : Int) g) (s := (([] : List Int), (i : Int))) (fun s => ∃ m : Nat, s = (pcs d i m, ((i + m : Nat) : Int)) ∧ (m = 0 ∨ i + m ≤ min n 20) ∧ allOk d g i m = true ∧ (m = 0 ∨ (hdV d i).2.2 = 0 ∧ m < hdK d i))
    (fun s => 2020 - s.2.toNat) (fun t => (match t with | .ret r => r | .go () => ([], 0)) = RES) ⟨0, rfl, .inl rfl, rfl, .inl rfl⟩ (by simp only; omega) (by
    rintro _ ⟨m, rfl, hm1, hm2, hm3⟩
    simp only [mementoref3_one_L1]
    by_cases c1 : i + m < min n 20
    rotate_left
    · left
      rw [if_neg (by simp only [decide_eq_true_eq]; omega)]
      refine ⟨_, rfl, ?_⟩
      simp only
      rw [hno m]
      intro q
      obtain ⟨r1, r2, r3, r4, r5, r6, _⟩ := hrec m q
      rcases hm3 with e | ⟨_, e⟩
      · subst e; omega
      · omega
    have c20 : i + m < 20 := by omega
    rw [if_pos (by simp only [decide_eq_true_eq]; omega), refRead h hw c20, Option.bind_some, ref_ok h hg c20, Option.bind_some]
    by_cases c2 : okS g (rdD d ((i + m : Nat) : Int)) = true
    rotate_left
    · left
      rw [Bool.eq_false_iff.2 c2, if_pos (by simp)]
      refine ⟨_, rfl, ?_⟩
      simp only
      rw [hno m]
      intro q
      obtain ⟨r1, r2, r3, r4, r5, r6, _⟩ := hrec m q
      apply c2
      refine allOk_at (k := hdK d i) ?_ r6
      rcases hm3 with e | ⟨_, e⟩
      · subst e
        have : 4 ≤ hdN d i := by unfold hdN; omega
        unfold hdK; omega
      · exact e
    have hl := h.ok.rd_len ((i + m : Nat) : Int)
    have s1 : slc (rdD d ((i + m : Nat) : Int)) 8 56 = some (pc (rdD d ((i + m : Nat) : Int))) := by
      have := slc_nat (rdD d ((i + m : Nat) : Int)) (show 8 ≤ 56 by omega) (by omega)
      rw [show ((8 : Nat) : Int) = 8 from rfl, show ((56 : Nat) : Int) = 56 from rfl] at this
      rw [this, List.drop_take]
      rfl
    have hml := pcs_len h.ok i m
    have hml1 := pcs_len h.ok i (m + 1)
    have hpl := pc_len hl
    rw [c2, if_neg (by simp), s1, Option.bind_some, app_of (by omega) (by omega), Option.bind_some, show pcs d i m ++ pc (rdD d ((i + m : Nat) : Int)) = pcs d i (m + 1) from rfl]
    have hok1 : allOk d g i (m + 1) = true := by rw [allOk, hm2, c2]; rfl
    by_cases c3 : (hdV d i).2.2 = 0
    rotate_left
    · left
      have hm0 : m = 0 := by
        rcases hm3 with e | ⟨e, _⟩
        · exact e
        · exact absurd e c3
      subst hm0
      have hb := pcs_byt h i 1 (by omega)
      have hb1 := pcs_len h.ok i 1
      have := refNum_eq (r := (pcs d i 1, 0)) ⟨hb, by simp only; omega⟩ 65535
      rw [show numR (pcs d i 1, 0) 65535 = hdV d i by rw [pcs_one]; rfl] at this
      have e1 : mementoref1_Reader_Num ⟨pcs d i (0 + 1), 0⟩ 65535 = some ((hdV d i).1, rdM (hdV d i).2) := this
      rw [e1, Option.bind_some]
      simp only
      rw [if_pos (by simpa [rdM] using c3)]
      refine ⟨_, rfl, ?_⟩
      simp only
      rw [hno 0]
      intro q
      exact c3 (hrec 0 q).2.2.1
    obtain ⟨v, rest, ev, hv, hrl, hN⟩ := hd_ok h (by omega) c3
    obtain ⟨x, ex, hx⟩ := num_pcs h (by omega) (m := m) (by omega) ev
    have hK : hdK d i = (hdN d i + 47) / 48 := rfl
    have hlx : (rest ++ x).length = rest.length + x.length := List.length_append
    have en : IntKind.wrap .i64 ((IntKind.wrap .i64 ((IntKind.wrap .i64 (((pcs d i (m + 1)).length : Int) - ((rest ++ x).length : Int))) + (IntKind.wrap .i64 (v : Int)))) + 4) = (hdN d i : Int) := by
      rw [hml1, hlx, wrap64 (n := ((48 * (m + 1) : Nat) : Int) - ((rest.length + x.length : Nat) : Int)) (by omega) (by omega), wrap64 (n := (v : Int)) (by omega) (by omega), wrap64 (n := ((48 * (m + 1) : Nat) : Int) - ((rest.length + x.length : Nat) : Int) + v) (by omega) (by omega), wrap64 (by omega) (by omega), hN]
      omega
    rw [ex, Option.bind_some]
    simp only
    rw [if_neg (by simp), en]
    by_cases c4 : m + 1 < hdK d i
    · right
      rw [if_pos (by simp only [decide_eq_true_eq]; omega), next3 (by omega)]
      exact ⟨_, rfl, ⟨m + 1, rfl, .inr (by omega), hok1, .inr ⟨c3, c4⟩⟩, by simp only [Int.toNat_natCast]; omega⟩
    · left
      have hk : m + 1 = hdK d i := by
        rcases hm3 with e | ⟨_, e⟩
        · subst e; omega
        · omega
      have hbl : ((pcs d i (m + 1)).take (hdN d i)).length = hdN d i := by rw [List.length_take]; omega
      have hpB := pcs_byt h i (m + 1) (by omega)
      have z0 : ((0 : Nat) : Int) = 0 := rfl
      rw [if_neg (by simp only [decide_eq_true_eq]; omega), ← z0, slc_nat _ (by omega) (by omega), List.drop_zero, Option.bind_some, (open_eq (hpB.take _) (by omega) (by omega)).2, Option.bind_some]
      have hrest : isRec d g i n = (openL ((pcs d i (m + 1)).take (hdN d i))).2 := by
        unfold isRec
        rw [← hk, hok1, decide_eq_true c3, decide_eq_true (show i < n ∧ i < 20 by omega), decide_eq_true (show i + (m + 1) ≤ n ∧ i + (m + 1) ≤ 20 by omega)]
        have : okS g (rdD d i) = true := by
          have := allOk_at (m := 0) (k := m + 1) (by omega) hok1
          rw [Nat.add_zero] at this
          exact this
        rw [this]
        simp
      by_cases c5 : (openL ((pcs d i (m + 1)).take (hdN d i))).2 = true
      · have hol := openL_len c5
        rw [c5, if_neg (by simp), wrap64 (n := (v : Int)) (by omega) (by omega), wrap64 (n := ((openL ((pcs d i (m + 1)).take (hdN d i))).1.length : Int) - v) (by omega) (by omega), show ((openL ((pcs d i (m + 1)).take (hdN d i))).1.length : Int) - (v : Int) = ((48 - rest.length : Nat) : Int) by omega, slc_nat _ (by omega) (by omega), List.take_length, Option.bind_some, app_of (by simp; omega) (by simp; omega), Option.bind_some, next3 (by omega), wrap64 (n := ((i + m + 1 : Nat) : Int) - i) (by omega) (by omega)]
        refine ⟨_, rfl, ?_⟩
        rw [← hRES, hrest, c5, if_pos rfl]
        unfold bodyR
        rw [← hk, ev]
        show (List.drop (48 - rest.length) (openL (List.take (hdN d i) (pcs d i (m + 1)))).1, ((i + m + 1 : Nat) : Int) - i) = (List.drop (48 - rest.length) (openL (List.take (hdN d i) (pcs d i (m + 1)))).1, ((m + 1 : Nat) : Int))
        rw [show ((i + m + 1 : Nat) : Int) - i = ((m + 1 : Nat) : Int) by omega]
      · rw [Bool.eq_false_iff.2 c5, if_pos (by simp)]
        refine ⟨_, rfl, ?_⟩
        rw [← hRES, hrest, Bool.eq_false_iff.2 c5]
        rfl)
  rw [ht]
  cases t with
  | ret r => rw [kont_ret]; exact congrArg some hq
  | go u => rw [kont_go']; exact congrArg some hq
end
end Go.Proofs.Yteclchefihcjkaa.Am
