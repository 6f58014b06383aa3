/- Records: sealed, parted into sectors, and read again. -/
import Derived.Test.YteclchefihcjkaaL6w0
import Derived.Test.YteclchefihcjkaaL6n
namespace Go.Proofs.Yteclchefihcjkaa.Am
open Go
set_option linter.unusedVariables false
set_option linter.unusedSimpArgs false
set_option maxRecDepth 100000

/-! sums -/
theorem more2_tot (c : Int) : ∃ t, loopN crc_More_L2 fuel (c, 0) = some t := by
  obtain ⟨t, h, _⟩ := loop_QF (b := crc_More_L2) (s := (c, 0)) (fun s => ∃ k : Nat, s.2 = (k : Int) ∧ k ≤ 8) (fun s => (8 - s.2).toNat) (fun _ => True) ⟨0, rfl, by omega⟩ (by simp) (by
    rintro ⟨v, _⟩ ⟨k, rfl, hk⟩
    simp only [crc_More_L2]
    by_cases h : k < 8
    · right
      rw [if_pos (by simp; omega), next3 (by omega)]
      exact ⟨_, rfl, ⟨k + 1, rfl, h⟩, by simp only; omega⟩
    · left
      rw [if_neg (by simp; omega)]
      exact ⟨_, rfl, trivial⟩)
  exact ⟨t, h⟩
theorem more_tot (c : Int) {b : List Int} (hb : b.length ≤ 100000) : ∃ t, crc_More c b = some t := by
  unfold crc_More
  obtain ⟨t, h, _⟩ := loop_QF (b := crc_More_L1 b) (s := (notI .u32 c, 0)) (fun s => ∃ k : Nat, s.2 = (k : Int) ∧ k ≤ b.length) (fun s => (b.length - s.2).toNat) (fun _ => True) ⟨0, rfl, by omega⟩ (by simp only; omega) (by
    rintro ⟨v, _⟩ ⟨k, rfl, hk⟩
    simp only [crc_More_L1]
    by_cases h : k < b.length
    · right
      obtain ⟨t, ht⟩ := more2_tot (Go.bits .xor .u32 v (IntKind.wrap .u32 b[k]))
      rw [if_pos (by simp; omega), idx_at h, Option.bind_some, ht, Option.bind_some, next3 (by omega)]
      exact ⟨_, rfl, ⟨k + 1, rfl, h⟩, by simp only; omega⟩
    · left
      rw [if_neg (by simp; omega)]
      exact ⟨_, rfl, trivial⟩)
  rw [h]
  exact ⟨_, rfl⟩
theorem sum_tot {b : List Int} (hb : b.length ≤ 100000) : ∃ t, crc_Sum [b] = some t := by
  unfold crc_Sum
  obtain ⟨t, h, _⟩ := loop_QF (b := crc_Sum_L1 [b]) (s := ((0 : Int), (0 : Int))) (fun s => ∃ k : Nat, s.2 = (k : Int) ∧ k ≤ 1) (fun s => (1 - s.2).toNat) (fun _ => True) ⟨0, rfl, by omega⟩ (by simp) (by
    rintro ⟨v, _⟩ ⟨k, rfl, hk⟩
    simp only [crc_Sum_L1]
    by_cases h : k < 1
    · right
      have : k = 0 := by omega
      subst this
      obtain ⟨t, ht⟩ := more_tot v hb
      have i0 : idx [b] ((0 : Nat) : Int) = some b := rfl
      rw [if_pos (by simp), i0, Option.bind_some, ht, Option.bind_some, next3 (by omega)]
      exact ⟨_, rfl, ⟨1, rfl, by omega⟩, by simp only; omega⟩
    · left
      rw [if_neg (by simp; omega)]
      exact ⟨_, rfl, trivial⟩)
  rw [h]
  exact ⟨_, rfl⟩
def crcV (b : List Int) : Int := (crc_Sum [b]).getD 0
theorem sum_eq {b : List Int} (hb : b.length ≤ 100000) : crc_Sum [b] = some (crcV b) := by
  obtain ⟨t, ht⟩ := sum_tot hb
  unfold crcV
  rw [ht]; rfl
def four (c : Int) : List Int := (crc_Four c).getD []
theorem four_eq (c : Int) : crc_Four c = some (four c) := rfl
theorem four_len (c : Int) : (four c).length = 4 := rfl
def sealL (b : List Int) : List Int := b ++ four (crcV b)
theorem sealL_len (b : List Int) : (sealL b).length = b.length + 4 := by simp [sealL, four_len]
theorem seal_eq {b : List Int} (hb : b.length ≤ 100000) : crc_Seal b = some (sealL b) := by
  unfold crc_Seal
  rw [app_of (by simp; omega) (by simp; omega), Option.bind_some, sum_eq hb, Option.bind_some, four_eq, Option.bind_some, List.nil_append, app_of (by rw [four_len]; omega) (by rw [four_len]; omega)]
  rfl
theorem open_seal {b : List Int} (hb : b.length ≤ 100000) : crc_Open (sealL b) = some (b, true) := by
  unfold crc_Open
  have hl := sealL_len b
  have e : IntKind.wrap .i64 (((sealL b).length : Int) - 4) = (b.length : Int) := by rw [hl, wrap64 (by omega) (by omega)]; omega
  have z0 : ((0 : Nat) : Int) = 0 := rfl
  have s1 : slc (sealL b) (b.length : Int) ((sealL b).length : Int) = some (four (crcV b)) := by
    rw [slc_nat _ (by omega) (by omega), List.take_length]
    unfold sealL; rw [List.drop_left]
  have s2 : slc (sealL b) 0 (b.length : Int) = some b := by
    rw [← z0, slc_nat _ (by omega) (by omega), List.drop_zero]
    unfold sealL; rw [List.take_left]
  rw [e, if_neg (by simp), s1, Option.bind_some, s2, Option.bind_some, sum_eq hb, Option.bind_some, four_eq, Option.bind_some]
  unfold bytes_Equal
  simp only [Option.bind_some, beq_self_eq_true, Bool.not_true, Bool.false_eq_true, if_false]
  rw [app_of (by simp; omega) (by simp; omega)]
  rfl

/-! a record's bytes -/
theorem put61 : (List.range 61).all (fun n => pack_Put [(n : Int)] == some [(n : Int)]) = true := by kernel_rfl
theorem put1 {n : Nat} (h : n < 61) : pack_Put [(n : Int)] = some [(n : Int)] := by simpa using List.all_eq_true.1 put61 n (List.mem_range.2 h)
theorem lump_eq {b : List Int} (h : b.length ≤ 60) : pack_Lump b = some ((b.length : Int) :: b) := by
  unfold pack_Lump
  rw [wrap64u (by omega) (by omega), put1 (by omega), Option.bind_some, app_of (by simp; omega) (by simp; omega)]
  rfl
def recB (b : List Int) : List Int := sealL ((b.length : Int) :: b)
theorem recB_len (b : List Int) : (recB b).length = b.length + 5 := by unfold recB; rw [sealL_len]; simp

/-! joined -/
theorem join_eq {l : List (List Int)} (hl : l.length ≤ 100) (h : l.flatten.length ≤ 100000) : pack_Join l = some l.flatten := by
  have hk : ∀ k, (l.take k).flatten.length ≤ l.flatten.length := fun k => by
    conv => rhs; rw [← List.take_append_drop k l, List.flatten_append, List.length_append]
    omega
  have hs : ∀ k (h : k < l.length), (l.take (k + 1)).flatten = (l.take k).flatten ++ l[k] := fun k h => by rw [List.take_succ_eq_append_getElem h, List.flatten_append]; simp
  have L1 : loopN (slices_Concat_Lbyte_byte_L1 l) fuel (0, 0) = some ((l.flatten.length : Nat) : Int) := by
    refine loop_eqF (s := ((0 : Int), (0 : Int))) (fun s => ∃ k : Nat, k ≤ l.length ∧ s = (((l.take k).flatten.length : Int), (k : Int))) (fun s => l.length - s.2.toNat) (fun _ => ((l.flatten.length : Nat) : Int)) ⟨0, by omega, rfl⟩ (by simp; omega) ?_
    rintro _ ⟨k, hkl, rfl⟩
    simp only [slices_Concat_Lbyte_byte_L1]
    by_cases c : k < l.length
    · right
      have q := hk (k + 1)
      have q2 := hk k
      have e := hs k c
      have ec : ((l.take k).flatten.length : Int) + (l[k].length : Int) = ((l.take (k + 1)).flatten.length : Int) := by rw [e, List.length_append]; omega
      rw [if_pos (by simpa using c), idx_at c, Option.bind_some, ec, wrap64 (n := ((l.take (k + 1)).flatten.length : Int)) (by omega) (by omega), if_neg (by simp), next3 (by omega)]
      exact ⟨_, rfl, ⟨k + 1, c, rfl⟩, by simp only [Int.toNat_natCast]; omega, trivial⟩
    · left
      have : k = l.length := by omega
      subst this
      rw [if_neg (by simp), List.take_length]; rfl
  have hg : slices_Grow_Lbyte_byte_nil ((l.flatten.length : Nat) : Int) = some [] := by
    unfold slices_Grow_Lbyte_byte_nil
    have e0 : IntKind.wrap .i64 (0 - 0) = 0 := by rw [wrap64 (by omega) (by omega)]; rfl
    rw [if_neg (by simp), e0, wrap64 (by omega) (by omega)]
    split
    · have s0 : slc ([] : List Int) 0 0 = some [] := rfl
      have m0 : mkz 1 (((l.flatten.length : Nat) : Int) - 0) = some () := by unfold mkz; rw [if_pos ⟨by omega, by omega, by omega⟩]
      rw [s0, Option.bind_some, m0]; rfl
    · rfl
  have L2 : loopN (slices_Concat_Lbyte_byte_L2 l) fuel ([], 0) = some l.flatten := by
    refine loop_eqF (s := (([] : List Int), (0 : Int))) (fun s => ∃ k : Nat, k ≤ l.length ∧ s = ((l.take k).flatten, (k : Int))) (fun s => l.length - s.2.toNat) (fun _ => l.flatten) ⟨0, by omega, rfl⟩ (by simp; omega) ?_
    rintro _ ⟨k, hkl, rfl⟩
    simp only [slices_Concat_Lbyte_byte_L2]
    by_cases c : k < l.length
    · right
      have q := hk (k + 1)
      have e := hs k c
      have ec := congrArg List.length e
      rw [List.length_append] at ec
      rw [if_pos (by simpa using c), idx_at c, Option.bind_some, app_of (by omega) (by omega), Option.bind_some, ← e, next3 (by omega)]
      exact ⟨_, rfl, ⟨k + 1, c, rfl⟩, by simp only [Int.toNat_natCast]; omega, trivial⟩
    · left
      have : k = l.length := by omega
      subst this
      rw [if_neg (by simp), List.take_length]; rfl
  unfold pack_Join slices_Concat_Lbyte_byte
  rw [L1, Option.bind_some, hg, Option.bind_some, L2]
  rfl

/-! sectors of a record -/
def p48 (t : List Int) : List Int := t.take 48 ++ List.replicate (48 - t.length) 0
theorem p48_len (t : List Int) : (p48 t).length = 48 := by simp [p48]; omega
def sec (G t : List Int) : List Int := G ++ p48 t ++ G
theorem sec_len {G : List Int} (hG : G.length = 8) (t : List Int) : (sec G t).length = 64 := by simp [sec, hG, p48_len]
/-- The sectors of at most 96 bytes. -/
def secs (G t : List Int) : List (List Int) := if t = [] then [] else if t.length ≤ 48 then [sec G t] else [sec G t, sec G (t.drop 48)]
theorem secs_nil (G : List Int) : secs G [] = [] := if_pos rfl
theorem secs_cons {G t : List Int} (h : t ≠ []) (hl : t.length ≤ 96) : secs G t = sec G t :: secs G (t.drop 48) := by
  unfold secs
  rw [if_neg h]
  by_cases h1 : t.length ≤ 48
  · rw [if_pos h1, if_pos (List.drop_eq_nil_of_le h1)]
  · have : t.drop 48 ≠ [] := fun e => by have := congrArg List.length e; simp at this; omega
    rw [if_neg h1, if_neg this, if_pos (by simp; omega)]
theorem secs_len (G t : List Int) (hl : t.length ≤ 96) : (secs G t).length = (t.length + 47) / 48 := by
  unfold secs
  by_cases h : t = []
  · subst h; rfl
  · have := List.length_pos_iff.2 h
    rw [if_neg h]
    split <;> simp <;> omega
theorem secs_64 {G : List Int} (hG : G.length = 8) (t : List Int) : ∀ s ∈ secs G t, s.length = 64 := fun s hs => by
  unfold secs at hs
  split at hs
  · simp at hs
  · split at hs <;> simp at hs
    · rw [hs]; exact sec_len hG _
    · rcases hs with h | h <;> rw [h] <;> exact sec_len hG _

/-- Sectors, written one behind another. -/
def wrAll (d : Pdisk_Disk) (i : Nat) : List (List Int) → Pdisk_Disk
  | [] => d
  | s :: r => wrAll (wrD d i s) (i + 1) r

theorem mks48 : mks 1 (0 : Int) 48 = some (List.replicate 48 0) := by unfold mks; rw [if_pos ⟨by omega, by omega, by omega⟩]; rfl
theorem cpy48 (t : List Int) : cpyL (List.replicate 48 (0 : Int)) 0 (List.replicate 48 (0 : Int)).length t = p48 t := by
  unfold cpyL p48
  rw [List.length_replicate, List.take_zero, List.nil_append, List.drop_replicate]
  congr 2
  omega

theorem appL_eq {g : Int} {G : List Int} (hg : wal_num g = some G) (hG : G.length = 8) {d : Pdisk_Disk} (hd : DiskOk d) (hp : d.power = -1) {i : Nat} {t : List Int} (ht : t.length ≤ 96) (hi : i + (secs G t).length ≤ d.n) (hn : i ≤ 1000) :
    loopN (wal_Append_L1 g) fuel ((i : Int), t, d) = some (.go (((i + (secs G t).length : Nat) : Int), wrAll d i (secs G t))) := by
  refine loop_eqF (s := ((i : Int), t, d)) (fun s => ∃ (i : Nat) (t : List Int) (d : Pdisk_Disk), s = ((i : Int), t, d) ∧ DiskOk d ∧ d.power = -1 ∧ t.length ≤ 96 ∧ i + (secs G t).length ≤ d.n ∧ i + (secs G t).length ≤ 1002) (fun s => s.2.1.length)
    (fun s => (Ctl.go (((s.1.toNat + (secs G s.2.1).length : Nat) : Int), wrAll s.2.2 s.1.toNat (secs G s.2.1)) : Ctl (Int × Int × Pdisk_Disk) (Int × Pdisk_Disk))) ⟨i, t, d, rfl, hd, hp, ht, hi, by have := secs_len G t ht; omega⟩ (by simp only; omega) ?_
  rintro _ ⟨i, t, d, rfl, hd, hp, ht, hi, hn⟩
  simp only [wal_Append_L1]
  by_cases h : t = []
  · subst h
    left
    rw [if_neg (by simp)]
    simp only [secs_nil, wrAll, Int.toNat_natCast]
    rfl
  · right
    have hpos := List.length_pos_iff.2 h
    have hsl := secs_cons (G := G) h ht
    have hl2 := congrArg List.length hsl
    rw [List.length_cons] at hl2
    have e1 : slc t ((min t.length (List.replicate 48 (0 : Int)).length : Nat) : Int) (t.length : Int) = some (t.drop 48) := by
      rw [slc_nat _ (by omega) (by omega), List.take_length, List.length_replicate]
      by_cases c : t.length ≤ 48
      · rw [Nat.min_eq_left c, List.drop_eq_nil_of_le (Nat.le_refl _), List.drop_eq_nil_of_le c]
      · rw [Nat.min_eq_right (by omega)]
    have e2 : pack_Join [G, p48 t, G] = some (sec G t) := by
      rw [join_eq (by simp) (by simp [hG, p48_len])]
      simp [sec]
    rw [if_pos (by simpa using hpos), mks48, Option.bind_some, e1, Option.bind_some, hg, Option.bind_some, cpy48, e2, Option.bind_some, write_eq hd (by omega) (by rw [sec_len hG]; omega) (by rw [hp]; decide), Option.bind_some]
    simp only
    rw [if_neg (by simp), next3 (by omega)]
    refine ⟨_, rfl, ⟨i + 1, t.drop 48, wrD d i (sec G t), rfl, wr_ok hd (by omega) (by rw [sec_len hG]; omega), by unfold wrD dec; simp only; rw [hp]; rfl, by rw [List.length_drop]; omega, by show _ ≤ d.n; omega, by omega⟩, by simp only [List.length_drop]; omega, ?_⟩
    simp only [Int.toNat_natCast]
    rw [hsl, wrAll, List.length_cons]
    congr 3
    omega

theorem append_eq {g : Int} {G : List Int} (hg : wal_num g = some G) (hG : G.length = 8) {d : Pdisk_Disk} (hd : DiskOk d) (hp : d.power = -1) {i n : Nat} {b : List Int} (hb : b.length ≤ 60) (hn : n ≤ 1000) (hnd : (n : Int) ≤ d.n) (hi : i + (secs G (recB b)).length ≤ n) :
    wal_Append d i n g b = some (((i + (secs G (recB b)).length : Nat) : Int), 0, wrAll d i (secs G (recB b))) := by
  have hl := recB_len b
  have hk := secs_len G (recB b) (by omega)
  unfold wal_Append
  have e1 : wal_Need [b] = some (((secs G (recB b)).length : Nat) : Int) := by
    rw [need_eq (by simp) (fun x hx => by simp at hx; subst hx; omega)]
    have : tot [b] = 0 + nd b.length := rfl
    rw [this]
    unfold nd kN
    rw [if_pos (by omega), hk, hl]
    congr 1
    omega
  rw [if_neg (by simp; omega), if_neg (by simp), if_neg (by simp; omega), e1, Option.bind_some, wrap64 (n := (n : Int) - i) (by omega) (by omega)]
  have e2 : decide ((((secs G (recB b)).length : Nat) : Int) > (n : Int) - (i : Int)) = false := decide_eq_false (by omega)
  rw [e2]
  simp only [Option.bind_some, Bool.false_eq_true, if_false]
  rw [lump_eq hb, Option.bind_some, seal_eq (by simp; omega), Option.bind_some]
  have := appL_eq hg hG hd hp (i := i) (t := recB b) (by omega) (by omega) (by omega)
  unfold recB at this
  rw [this]
  rfl
end Go.Proofs.Yteclchefihcjkaa.Am
