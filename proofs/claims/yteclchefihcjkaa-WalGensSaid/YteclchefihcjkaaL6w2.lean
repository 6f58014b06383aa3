/- Records: read again, one and all that stand behind one another. -/
import Derived.Test.YteclchefihcjkaaL6w1
namespace Go.Proofs.Yteclchefihcjkaa.Am
open Go
set_option linter.unusedVariables false
set_option linter.unusedSimpArgs false
set_option maxRecDepth 100000

theorem loopN_ret {S T : Type} {b : S → Option (Ctl T S)} {n : Nat} {s : S} {t : T} (h : b s = some (.ret t)) : loopN b (n + 1) s = some t := by simp only [loopN, h]
theorem loopN_go {S T : Type} {b : S → Option (Ctl T S)} {n : Nat} {s s' : S} (h : b s = some (.go s')) : loopN b (n + 1) s = loopN b n s' := by simp only [loopN, h]

/-! a sector's piece -/
theorem part_eq {d : Pdisk_Disk} (hd : DiskOk d) {j : Nat} (hj : (j : Int) < d.n) {g : Int} {G : List Int} (hg : wal_num g = some G) (hG : G.length = 8) :
    wal_part d j g = some (if strOf ((rdD d j).take 8) == strOf G && strOf ((rdD d j).drop 56) == strOf G then ((rdD d j).drop 8).take 48 else [], strOf ((rdD d j).take 8) == strOf G && strOf ((rdD d j).drop 56) == strOf G) := by
  unfold wal_part
  have hl := hd.rd_len (j : Int)
  rw [read_eq hd ⟨by omega, hj⟩, Option.bind_some, hg, Option.bind_some]
  generalize rdD d (j : Int) = X at *
  have z0 : ((0 : Nat) : Int) = 0 := rfl
  have s1 : slc X 0 (G.length : Int) = some (X.take 8) := by rw [← z0, slc_nat _ (by omega) (by omega), List.drop_zero, hG]
  have s2 : slc X (IntKind.wrap .i64 ((X.length : Int) - (G.length : Int))) (X.length : Int) = some (X.drop 56) := by
    rw [wrap64 (by omega) (by omega), show (X.length : Int) - (G.length : Int) = ((56 : Nat) : Int) by omega, slc_nat _ (by omega) (by omega), List.take_length]
  have s3 : slc X 8 56 = some ((X.drop 8).take 48) := by
    have := slc_nat X (show 8 ≤ 56 by omega) (by omega)
    rw [show ((8 : Nat) : Int) = 8 by rfl, show ((56 : Nat) : Int) = 56 by rfl] at this
    rw [this, List.drop_take]
  have hp : bytes_HasPrefix X G = some (strOf (X.take 8) == strOf G) := by
    unfold bytes_HasPrefix
    rw [if_pos (by simp; omega), s1]
    rfl
  have hs : bytes_HasSuffix X G = some (strOf (X.drop 56) == strOf G) := by
    unfold bytes_HasSuffix
    rw [if_pos (by simp; omega), s2]
    rfl
  have hn : ((X.length : Int) != 64) = false := by rw [hl]; rfl
  rw [hp, Option.bind_some]
  cases strOf (X.take 8) == strOf G with
  | false => simp
  | true =>
    rw [hs, hn, s3]
    cases strOf (X.drop 56) == strOf G with
    | false => simp
    | true => simp
theorem part_hit {d : Pdisk_Disk} (hd : DiskOk d) {j : Nat} (hj : (j : Int) < d.n) {g : Int} {G : List Int} (hg : wal_num g = some G) (hG : G.length = 8) {t : List Int} (h : rdD d j = sec G t) : wal_part d j g = some (p48 t, true) := by
  rw [part_eq hd hj hg hG, h]
  have hp := p48_len t
  have e1 : (sec G t).take 8 = G := by unfold sec; rw [List.append_assoc, List.take_append_of_le_length (by omega), List.take_of_length_le (by omega)]
  have e2 : (sec G t).drop 56 = G := by unfold sec; rw [List.drop_append, List.drop_eq_nil_of_le (by simp; omega)]; simp [hG, hp]
  have e3 : ((sec G t).drop 8).take 48 = p48 t := by
    unfold sec
    rw [List.append_assoc, List.drop_append, List.drop_eq_nil_of_le (by omega), hG]
    simp [hp]
  rw [e1, e2, e3]
  simp

/-! the first number -/
theorem num61 : (List.range 61).all (fun x => (Go.bits .and .u8 (x : Int) 128 == 0) && (Go.bits .or .u64 0 (shlI .u64 (IntKind.wrap .u64 (Go.bits .andNot .u8 (x : Int) 128)) 0) == (x : Int))) = true := by kernel_rfl
theorem pnum_eq {x : Nat} (h : x < 61) (r : List Int) : pack_number ((x : Int) :: r) = some ((x : Int), 1, 0) := by
  have q := List.all_eq_true.1 num61 x (List.mem_range.2 h)
  rw [Bool.and_eq_true, beq_iff_eq, beq_iff_eq] at q
  unfold pack_number
  have i0 : idx ((x : Int) :: r) 0 = some (x : Int) := rfl
  have c0 : cnt .u64 (IntKind.wrap .i64 (7 * 0)) = some 0 := by rfl
  have hr : pack_number_L1 ((x : Int) :: r) (0, 0) = some (.ret (.ret ((x : Int), 1, 0))) := by
    simp only [pack_number_L1]
    rw [if_pos (by simp), i0, Option.bind_some, if_neg (by simp), Option.bind_some, if_neg (by simp), c0, Option.bind_some, q.1, if_neg (by simp), if_neg (by simp), Option.bind_some, if_neg (by simp), q.2, wrap64 (by omega) (by omega)]
    rfl
  have hl : loopN (pack_number_L1 ((x : Int) :: r)) fuel (0, 0) = some (.ret ((x : Int), 1, 0)) := loopN_ret (n := 4611686018427387903) hr
  rw [hl]; rfl

theorem clone5 {b : List Int} (h : b.length ≤ 100000) : slices_Clone_Lbyte_byte b = some b := by
  unfold slices_Clone_Lbyte_byte
  rw [app_of (by simp; omega) (by simp; omega)]; rfl

/-- A record's head, read off its first piece. -/
theorem head_eq {b : List Int} (hb : b.length ≤ 60) : ∃ r, p48 (recB b) = (b.length : Int) :: r ∧ r.length = 47 := by
  have hp := p48_len (recB b)
  refine ⟨(p48 (recB b)).drop 1, ?_, by rw [List.length_drop]; omega⟩
  have : p48 (recB b) = (b.length : Int) :: ((b ++ four (crcV ((b.length : Int) :: b))).take 47 ++ List.replicate (48 - (recB b).length) 0) := rfl
  rw [this]
  rfl

theorem take_rec {b : List Int} {m : List Int} (h1 : p48 (recB b) ++ m = p48 (recB b) ++ m) (hm : (recB b).length ≤ 48 ∧ m = [] ∨ 48 < (recB b).length ∧ (recB b).length ≤ 96 ∧ m = p48 ((recB b).drop 48)) :
    (p48 (recB b) ++ m).take (recB b).length = recB b ∧ (recB b).length ≤ (p48 (recB b) ++ m).length := by
  generalize recB b = t at *
  have hp := p48_len t
  rcases hm with ⟨h, rfl⟩ | ⟨h, h2, rfl⟩
  · refine ⟨?_, by simp; omega⟩
    rw [List.append_nil]
    unfold p48
    rw [List.take_of_length_le h, List.take_left]
  · have hq := p48_len (t.drop 48)
    refine ⟨?_, by simp; omega⟩
    have e : p48 t = t.take 48 := by unfold p48; rw [show 48 - t.length = 0 by omega]; simp
    have e2 : p48 (t.drop 48) = t.drop 48 ++ List.replicate (48 - (t.drop 48).length) 0 := by
      unfold p48
      rw [List.take_of_length_le (by rw [List.length_drop]; omega)]
    rw [e, e2, ← List.append_assoc, List.take_append_drop, List.take_left]

section one
variable {d : Pdisk_Disk} {g : Int} {G : List Int} {n i : Nat} {b : List Int}

/-- What stands of the record behind its first piece. -/
theorem one_at (hd : DiskOk d) (hnd : (n : Int) ≤ d.n) (hn : n ≤ 1000) (hg : wal_num g = some G) (hG : G.length = 8) (hb : b.length ≤ 60) (hi : i < n) (h0 : rdD d i = sec G (recB b)) (hk : i + ((recB b).length + 47) / 48 ≤ n)
    {res : List Int × Int × Bool}
    (hrest : kont (loopN (wal_one_L1 d i g (p48 (recB b)) (b.length : Int) 47) fuel (p48 (recB b), 1)) (fun t11 => ((slc t11 0 (((recB b).length : Nat) : Int)).bind fun m => ((crc_Open m).bind fun (y58, y59) => (if (!y59) then (some (([] : (List Int)), 0, false)) else ((slc y58 1 (y58.length : Int)).bind fun m62 => (some (m62, (((((recB b).length + 47) / 48 : Nat)) : Int), true))))))) = some res) :
    wal_one d i n g = some res := by
  have hl := recB_len b
  have hp := p48_len (recB b)
  obtain ⟨r, hr, hrl⟩ := head_eq hb
  unfold wal_one
  rw [if_neg (by simp), decide_eq_false (by omega), Option.bind_some, if_neg (by simp), part_hit hd (by omega) hg hG h0, Option.bind_some]
  simp only
  rw [if_neg (by simp)]
  have e1 : pack_New (p48 (recB b)) = some ⟨⟨p48 (recB b), 0⟩⟩ := by unfold pack_New; rw [clone5 (by omega)]; rfl
  have e2 : pack_Reader_Num ⟨⟨p48 (recB b), 0⟩⟩ 65535 = some ((b.length : Int), ⟨⟨r, 0⟩⟩) := by
    unfold pack_Reader_Num
    rw [if_neg (by simp), hr, pnum_eq (by omega), Option.bind_some]
    simp only
    rw [if_neg (by simp), if_neg (by simp; omega)]
    have := slc_nat ((b.length : Int) :: r) (show 1 ≤ ((b.length : Int) :: r).length by simp) (Nat.le_refl _)
    rw [show ((1 : Nat) : Int) = 1 by rfl] at this
    rw [this, List.take_length]
    rfl
  have e3 : pack_rest_Left ⟨r, 0⟩ = some 47 := by unfold pack_rest_Left; simp only; rw [hrl]; rfl
  have e4 : pack_rest_Err ⟨r, 0⟩ = some 0 := rfl
  have e5 : IntKind.wrap .i64 (((p48 (recB b)).length : Int) - 47) = 1 := by rw [hp, wrap64 (by omega) (by omega)]; rfl
  have e6 : IntKind.wrap .i64 ((IntKind.wrap .i64 (1 + (IntKind.wrap .i64 (b.length : Int)))) + 4) = (((recB b).length : Nat) : Int) := by
    rw [wrap64 (n := (b.length : Int)) (by omega) (by omega), wrap64 (n := 1 + (b.length : Int)) (by omega) (by omega), wrap64 (by omega) (by omega), hl]; omega
  have e7 : wal_sectors (((recB b).length : Nat) : Int) = some (((((recB b).length + 47) / 48 : Nat)) : Int) := by rw [sectors_eq (by omega) (by omega)]; congr 1
  rw [e1, Option.bind_some, e2, Option.bind_some]
  simp only
  rw [e3, Option.bind_some, e4, Option.bind_some, if_neg (by simp), e5, e6, e7, Option.bind_some, wrap64 (n := (n : Int) - i) (by omega) (by omega), decide_eq_false (by omega), Option.bind_some, if_neg (by simp)]
  exact hrest

theorem one_end (hd : DiskOk d) (hnd : (n : Int) ≤ d.n) (hn : n ≤ 1000) (hg : wal_num g = some G) (hG : G.length = 8) (hb : b.length ≤ 60) {m : List Int}
    (hm : (recB b).length ≤ 48 ∧ m = [] ∨ 48 < (recB b).length ∧ (recB b).length ≤ 96 ∧ m = p48 ((recB b).drop 48)) :
    (fun t11 => ((slc t11 0 (((recB b).length : Nat) : Int)).bind fun m => ((crc_Open m).bind fun (y58, y59) => (if (!y59) then (some (([] : (List Int)), 0, false)) else ((slc y58 1 (y58.length : Int)).bind fun m62 => (some (m62, (((((recB b).length + 47) / 48 : Nat)) : Int), true))))))) (p48 (recB b) ++ m)
      = some (b, (((((recB b).length + 47) / 48 : Nat)) : Int), true) := by
  obtain ⟨t1, t2⟩ := take_rec rfl hm
  have z0 : ((0 : Nat) : Int) = 0 := rfl
  simp only
  rw [← z0, slc_nat _ (by omega) t2, List.drop_zero, t1, Option.bind_some]
  have : crc_Open (recB b) = some ((b.length : Int) :: b, true) := open_seal (by simp; omega)
  rw [this, Option.bind_some]
  simp only
  rw [if_neg (by simp)]
  have := slc_nat ((b.length : Int) :: b) (show 1 ≤ ((b.length : Int) :: b).length by simp) (Nat.le_refl _)
  rw [show ((1 : Nat) : Int) = 1 by rfl] at this
  rw [this, List.take_length]
  rfl

theorem one_hit (hd : DiskOk d) (hnd : (n : Int) ≤ d.n) (hn : n ≤ 1000) (hg : wal_num g = some G) (hG : G.length = 8) (hb : b.length ≤ 60) (hk : i + (secs G (recB b)).length ≤ n)
    (h : ∀ j (hj : j < (secs G (recB b)).length), rdD d ((i + j : Nat) : Int) = (secs G (recB b))[j]) : wal_one d i n g = some (b, (((secs G (recB b)).length : Nat) : Int), true) := by
  have hl := recB_len b
  have hp := p48_len (recB b)
  have hsl := secs_len G (recB b) (by omega)
  have hne : recB b ≠ [] := fun e => by have := congrArg List.length e; rw [hl] at this; simp at this
  have hs := secs_cons (G := G) hne (by omega)
  have h0 : rdD d i = sec G (recB b) := by
    have q := h 0 (by omega)
    simp only [hs, List.getElem_cons_zero, Nat.add_zero] at q
    exact q
  rw [hsl] at hk
  refine one_at hd hnd hn hg hG hb (by omega) h0 hk ?_
  rw [hsl]
  by_cases hc : (recB b).length ≤ 48
  · have e : loopN (wal_one_L1 d i g (p48 (recB b)) (b.length : Int) 47) fuel (p48 (recB b), 1) = some (.go (p48 (recB b))) := loopN_ret (n := 4611686018427387903) (by
      simp only [wal_one_L1]
      rw [wrap64 (n := ((p48 (recB b)).length : Int) - 47) (by omega) (by omega), wrap64 (n := (b.length : Int)) (by omega) (by omega), wrap64 (n := ((p48 (recB b)).length : Int) - 47 + (b.length : Int)) (by omega) (by omega), wrap64 (by omega) (by omega), if_neg (by simp; omega)]
      rfl)
    rw [e, kont_go']
    have := one_end hd hnd hn hg hG hb (m := []) (.inl ⟨hc, rfl⟩)
    rw [List.append_nil] at this
    exact this
  · have h1 : rdD d ((i + 1 : Nat) : Int) = sec G ((recB b).drop 48) := by
      have q := h 1 (by omega)
      have hne2 : (recB b).drop 48 ≠ [] := fun e => by have := congrArg List.length e; simp at this; omega
      have hs2 := secs_cons (G := G) hne2 (by rw [List.length_drop]; omega)
      simp only [hs, hs2, List.getElem_cons_succ, List.getElem_cons_zero] at q
      exact q
    have hq := p48_len ((recB b).drop 48)
    have e : loopN (wal_one_L1 d i g (p48 (recB b)) (b.length : Int) 47) fuel (p48 (recB b), 1) = some (.go (p48 (recB b) ++ p48 ((recB b).drop 48))) := by
      have s1 : wal_one_L1 d i g (p48 (recB b)) (b.length : Int) 47 (p48 (recB b), 1) = some (.go (p48 (recB b) ++ p48 ((recB b).drop 48), 2)) := by
        simp only [wal_one_L1]
        rw [wrap64 (n := ((p48 (recB b)).length : Int) - 47) (by omega) (by omega), wrap64 (n := (b.length : Int)) (by omega) (by omega), wrap64 (n := ((p48 (recB b)).length : Int) - 47 + (b.length : Int)) (by omega) (by omega), wrap64 (n := ((p48 (recB b)).length : Int) - 47 + (b.length : Int) + 4) (by omega) (by omega), if_pos (by simp; omega), wrap64 (n := (i : Int) + 1) (by omega) (by omega), show (i : Int) + 1 = ((i + 1 : Nat) : Int) by omega, part_hit hd (by omega) hg hG h1, Option.bind_some]
        simp only
        rw [if_neg (by simp), join_eq (by simp) (by simp; omega), Option.bind_some, wrap64 (by omega) (by omega)]
        simp
      have s2 : wal_one_L1 d i g (p48 (recB b)) (b.length : Int) 47 (p48 (recB b) ++ p48 ((recB b).drop 48), 2) = some (.ret (.go (p48 (recB b) ++ p48 ((recB b).drop 48)))) := by
        simp only [wal_one_L1]
        rw [wrap64 (n := ((p48 (recB b)).length : Int) - 47) (by omega) (by omega), wrap64 (n := (b.length : Int)) (by omega) (by omega), wrap64 (n := ((p48 (recB b)).length : Int) - 47 + (b.length : Int)) (by omega) (by omega), wrap64 (n := ((p48 (recB b)).length : Int) - 47 + (b.length : Int) + 4) (by omega) (by omega), if_neg (by simp; omega)]
        rfl
      exact (loopN_go (n := 4611686018427387903) s1).trans (loopN_ret (n := 4611686018427387902) s2)
    rw [e, kont_go']
    exact one_end hd hnd hn hg hG hb (m := p48 ((recB b).drop 48)) (.inr ⟨by omega, by omega, rfl⟩)

theorem one_miss0 (hn : n ≤ 1000) {z : List Int} (h : i < n → wal_part d i g = some (z, false)) : wal_one d i n g = some ([], 0, false) := by
  unfold wal_one
  rw [if_neg (by simp)]
  by_cases hi : i < n
  · rw [decide_eq_false (by omega), Option.bind_some, if_neg (by simp), h hi]; rfl
  · rw [decide_eq_true (by omega)]; rfl

theorem one_miss (hd : DiskOk d) (hnd : (n : Int) ≤ d.n) (hn : n ≤ 1000) (hg : wal_num g = some G) (hG : G.length = 8) (hb : b.length ≤ 60) (hk : i + (secs G (recB b)).length ≤ n)
    (h : ∀ j (hj : j < (secs G (recB b)).length), rdD d ((i + j : Nat) : Int) = (secs G (recB b))[j] ∨ ∃ z, wal_part d ((i + j : Nat) : Int) g = some (z, false))
    (hx : ∃ j, j < (secs G (recB b)).length ∧ ∃ z, wal_part d ((i + j : Nat) : Int) g = some (z, false)) : wal_one d i n g = some ([], 0, false) := by
  have hl := recB_len b
  have hp := p48_len (recB b)
  have hsl := secs_len G (recB b) (by omega)
  have hne : recB b ≠ [] := fun e => by have := congrArg List.length e; rw [hl] at this; simp at this
  have hs := secs_cons (G := G) hne (by omega)
  by_cases hf : ∃ z, wal_part d ((i + 0 : Nat) : Int) g = some (z, false)
  · obtain ⟨z, hz⟩ := hf
    exact one_miss0 hn (z := z) fun _ => by rw [Nat.add_zero] at hz; exact hz
  have h0 : rdD d i = sec G (recB b) := by
    have q := (h 0 (by omega)).resolve_right hf
    simp only [hs, List.getElem_cons_zero, Nat.add_zero] at q
    exact q
  obtain ⟨j, hj, z, hz⟩ := hx
  have hj1 : j = 1 := by
    by_cases e : j = 0
    · subst e; exact absurd ⟨z, hz⟩ hf
    · omega
  subst hj1
  rw [hsl] at hk hj
  refine one_at hd hnd hn hg hG hb (by omega) h0 hk ?_
  have e : loopN (wal_one_L1 d i g (p48 (recB b)) (b.length : Int) 47) fuel (p48 (recB b), 1) = some (.ret ([], 0, false)) := loopN_ret (n := 4611686018427387903) (by
    simp only [wal_one_L1]
    rw [wrap64 (n := ((p48 (recB b)).length : Int) - 47) (by omega) (by omega), wrap64 (n := (b.length : Int)) (by omega) (by omega), wrap64 (n := ((p48 (recB b)).length : Int) - 47 + (b.length : Int)) (by omega) (by omega), wrap64 (n := ((p48 (recB b)).length : Int) - 47 + (b.length : Int) + 4) (by omega) (by omega), if_pos (by simp; omega), wrap64 (n := (i : Int) + 1) (by omega) (by omega), show (i : Int) + 1 = ((i + 1 : Nat) : Int) by omega, hz]
    rfl)
  rw [e, kont_ret]
end one

/-! all that stand behind one another -/
def allS (G : List Int) (bs : List (List Int)) : List (List Int) := (bs.map fun b => secs G (recB b)).flatten
def stR (G : List Int) (bs : List (List Int)) (r : Nat) : Nat := (allS G (bs.take r)).length
theorem allS_snoc (G : List Int) (bs : List (List Int)) (b : List Int) : allS G (bs ++ [b]) = allS G bs ++ secs G (recB b) := by simp [allS]
theorem allS_take {G : List Int} {bs : List (List Int)} {r : Nat} (h : r < bs.length) : allS G (bs.take (r + 1)) = allS G (bs.take r) ++ secs G (recB bs[r]) := by rw [List.take_succ_eq_append_getElem h, allS_snoc]
theorem allS_pre (G : List Int) (bs : List (List Int)) (r : Nat) : allS G bs = allS G (bs.take r) ++ allS G (bs.drop r) :=
  (congrArg (allS G) (List.take_append_drop r bs)).symm.trans (by unfold allS; rw [List.map_append, List.flatten_append])
theorem stR_mono (G : List Int) (bs : List (List Int)) {r s : Nat} (h : r ≤ s) : stR G bs r ≤ stR G bs s := by
  unfold stR
  have := allS_pre G (bs.take s) r
  rw [List.take_take, Nat.min_eq_left h] at this
  rw [this, List.length_append]; omega
theorem allS_at {G : List Int} {bs : List (List Int)} {r j : Nat} (h : r < bs.length) (hj : j < (secs G (recB bs[r])).length) : ∃ hh, (allS G bs)[stR G bs r + j]'hh = (secs G (recB bs[r]))[j] := by
  have e : allS G bs = allS G (bs.take r) ++ (secs G (recB bs[r]) ++ allS G (bs.drop (r + 1))) := by
    rw [allS_pre G bs (r + 1), allS_take h, List.append_assoc]
  have hh : stR G bs r + j < (allS G bs).length := by rw [e]; simp [stR]; omega
  refine ⟨hh, ?_⟩
  simp only [e]
  unfold stR
  rw [List.getElem_append_right (by omega)]
  simp only [Nat.add_sub_cancel_left]
  rw [List.getElem_append_left hj]

theorem scan_eq {d : Pdisk_Disk} {g : Int} {G : List Int} {n su : Nat} {bs : List (List Int)} (hd : DiskOk d) (hnd : (n : Int) ≤ d.n) (hn : n ≤ 1000) (hg : wal_num g = some G) (hG : G.length = 8) (hb : ∀ b ∈ bs, b.length ≤ 60) (hbl : bs.length ≤ 100)
    (hN : (allS G bs).length ≤ n) (hsu : ∀ j (hj : j < (allS G bs).length), j < su → rdD d (j : Int) = (allS G bs)[j]) (hall : ∀ j (hj : j < (allS G bs).length), rdD d (j : Int) = (allS G bs)[j] ∨ ∃ z, wal_part d (j : Int) g = some (z, false))
    (hend : wal_one d (((allS G bs).length : Nat) : Int) n g = some ([], 0, false)) :
    ∃ r, wal_Scan d 0 n g = some (bs.take r, (stR G bs r : Int)) ∧ r ≤ bs.length ∧ (r = bs.length ∨ su < stR G bs (r + 1)) ∧ ((∀ j (hj : j < (allS G bs).length), rdD d (j : Int) = (allS G bs)[j]) → r = bs.length) := by
  unfold wal_Scan
  have h0 : stR G bs 0 = 0 := by simp [stR, allS]
  obtain ⟨t, ht, r, hr, hrl, hq, hq2⟩ := loop_QF (b := wal_Scan_L1 d n g) (s := ((0 : Int), ([] : List (List Int)))) (fun s => ∃ r, s = ((stR G bs r : Int), bs.take r) ∧ r ≤ bs.length) (fun s => bs.length - s.2.length)
    (fun t => ∃ r, t = ((stR G bs r : Int), bs.take r) ∧ r ≤ bs.length ∧ (r = bs.length ∨ su < stR G bs (r + 1)) ∧ ((∀ j (hj : j < (allS G bs).length), rdD d (j : Int) = (allS G bs)[j]) → r = bs.length)) ⟨0, by rw [h0]; rfl, by omega⟩ (by simp only; omega) (by
    rintro _ ⟨r, rfl, hr⟩
    simp only [wal_Scan_L1]
    by_cases hlt : r < bs.length
    · have hbr := hb _ (List.getElem_mem hlt)
      have e1 : stR G bs (r + 1) = stR G bs r + (secs G (recB bs[r])).length := by unfold stR; rw [allS_take hlt, List.length_append]
      have e2 : stR G bs (r + 1) ≤ (allS G bs).length := by
        have := stR_mono G bs (show r + 1 ≤ bs.length by omega)
        unfold stR at this ⊢
        rw [List.take_length] at this
        exact this
      by_cases hx : ∃ j, j < (secs G (recB bs[r])).length ∧ ∃ z, wal_part d ((stR G bs r + j : Nat) : Int) g = some (z, false)
      · by_cases hgood : ∀ j (hj : j < (secs G (recB bs[r])).length), rdD d ((stR G bs r + j : Nat) : Int) = (secs G (recB bs[r]))[j]
        · exfalso
          obtain ⟨j, hj, z, hz⟩ := hx
          unfold secs at hj hgood
          have hne : recB bs[r] ≠ [] := fun e => by have := congrArg List.length e; rw [recB_len] at this; simp at this
          have hl := recB_len bs[r]
          have hs := secs_cons (G := G) hne (by omega)
          have hq : ∃ t, rdD d ((stR G bs r + j : Nat) : Int) = sec G t := by
            have := hgood j hj
            rw [this]
            rw [if_neg hne] at hj
            by_cases hc : (recB bs[r]).length ≤ 48
            · rw [if_pos hc] at hj
              simp only [List.length_cons, List.length_nil] at hj
              refine ⟨recB bs[r], ?_⟩
              have : j = 0 := by omega
              subst this
              simp only [if_neg hne, if_pos hc, List.getElem_cons_zero]
            · rw [if_neg hc] at hj
              simp only [List.length_cons, List.length_nil] at hj
              by_cases e : j = 0
              · subst e
                exact ⟨recB bs[r], by simp only [if_neg hne, if_neg hc, List.getElem_cons_zero]⟩
              · have : j = 1 := by omega
                subst this
                exact ⟨(recB bs[r]).drop 48, by simp only [if_neg hne, if_neg hc, List.getElem_cons_zero, List.getElem_cons_succ]⟩
          obtain ⟨t, ht⟩ := hq
          have hjn : stR G bs r + j < n := by
            have : j < (secs G (recB bs[r])).length := hj
            omega
          rw [part_hit hd (by omega) hg hG ht] at hz
          cases hz
        · left
          rw [one_miss hd hnd hn hg hG hbr (by omega) (fun j hj => by
            obtain ⟨hh, e⟩ := allS_at hlt hj
            have := hall _ hh
            rw [e] at this
            exact this) hx, Option.bind_some]
          refine ⟨_, rfl, r, rfl, hr, .inr ?_, fun hg2 => ?_⟩
          · by_cases hc : su < stR G bs (r + 1)
            · exact hc
            · exfalso
              apply hgood
              intro j hj
              obtain ⟨hh, e⟩ := allS_at hlt hj
              rw [← e]
              exact hsu _ hh (by omega)
          · exfalso
            apply hgood
            intro j hj
            obtain ⟨hh, e⟩ := allS_at hlt hj
            rw [← e]
            exact hg2 _ hh
      · right
        have hgood : ∀ j (hj : j < (secs G (recB bs[r])).length), rdD d ((stR G bs r + j : Nat) : Int) = (secs G (recB bs[r]))[j] := fun j hj => by
          obtain ⟨hh, e⟩ := allS_at hlt hj
          rw [← e]
          exact (hall _ hh).resolve_right fun hz => hx ⟨j, hj, hz⟩
        rw [one_hit hd hnd hn hg hG hbr (by omega) hgood, Option.bind_some]
        simp only
        rw [if_neg (by simp), app_of (by simp; omega) (by simp; omega), Option.bind_some, wrap64 (by omega) (by omega)]
        refine ⟨_, rfl, ⟨r + 1, ?_, hlt⟩, by simp only [List.length_append, List.length_cons, List.length_nil, List.length_take]; omega⟩
        rw [List.take_succ_eq_append_getElem hlt, e1]
        congr 1
    · left
      have : r = bs.length := by omega
      subst this
      have hs : stR G bs bs.length = (allS G bs).length := by unfold stR; rw [List.take_length]
      have hm : wal_one d ((stR G bs bs.length : Nat) : Int) n g = some ([], 0, false) := by
        rw [hs]
        exact hend
      rw [hm, Option.bind_some]
      exact ⟨_, rfl, bs.length, rfl, Nat.le_refl _, .inl rfl, fun _ => rfl⟩)
  rw [ht, hr]
  exact ⟨r, rfl, hrl, hq, hq2⟩
end Go.Proofs.Yteclchefihcjkaa.Am
