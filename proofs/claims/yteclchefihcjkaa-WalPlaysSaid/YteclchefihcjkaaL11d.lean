/- Records: their bytes, parted; the code's and the document's. -/
import Derived.Test.YteclchefihcjkaaL11w0
import Derived.Test.YteclchefihcjkaaL11c
import Derived.Test.YteclchefihcjkaaL11g
namespace Go.Proofs.Yteclchefihcjkaa.Am
open Go
set_option linter.unusedVariables false
set_option linter.unusedSimpArgs false
set_option maxRecDepth 100000

/-! joined -/
theorem join_eq {l : List (List Int)} (hl : l.length ≤ 100) (h : l.flatten.length ≤ 100000) : pack_Join l = some l.flatten := by
  have hk : ∀ k, (l.take k).flatten.length ≤ l.flatten.length := fun k => by
    conv => rhs; rw [← List.take_append_drop k l, List.flatten_append, List.length_append]
    omega
  have hs : ∀ k (h : k < l.length), (l.take (k + 1)).flatten = (l.take k).flatten ++ l[k] := fun k h => by rw [List.take_succ_eq_append_getElem h, List.flatten_append]; simp
  have L1 : loopN (slices_Concat_Lbyte_byte_L1 l) fuel (0, 0) = some ((l.flatten.length : Nat) : Int) := by
    refine loop_eqF (s := ((0 : Int), (0 : Int))) (fun s => ∃ k : Nat, k ≤ l.length ∧ s = (((l.take k).flatten.length : Int), (k : Int))) (fun s => l.length - s.2.toNat) (fun _ => ((l.flatten.length : Nat) : Int)) ⟨0, by omega, rfl⟩ (by simp; omega) ?_
    rintro _ ⟨k, hkl, rfl⟩
    simp only [slices_Concat_Lbyte_byte_L1]
    by_cases c : k < l.length
    · right
      have q := hk (k + 1)
      have q2 := hk k
      have e := hs k c
      have ec : ((l.take k).flatten.length : Int) + (l[k].length : Int) = ((l.take (k + 1)).flatten.length : Int) := by rw [e, List.length_append]; omega
      rw [if_pos (by simpa using c), idx_at c, Option.bind_some, ec, wrap64 (n := ((l.take (k + 1)).flatten.length : Int)) (by omega) (by omega), if_neg (by simp), next3 (by omega)]
      exact ⟨_, rfl, ⟨k + 1, c, rfl⟩, by simp only [Int.toNat_natCast]; omega, trivial⟩
    · left
      have : k = l.length := by omega
      subst this
      rw [if_neg (by simp), List.take_length]; rfl
  have hg : slices_Grow_Lbyte_byte_nil ((l.flatten.length : Nat) : Int) = some [] := by
    unfold slices_Grow_Lbyte_byte_nil
    have e0 : IntKind.wrap .i64 (0 - 0) = 0 := by rw [wrap64 (by omega) (by omega)]; rfl
    rw [if_neg (by simp), e0, wrap64 (by omega) (by omega)]
    split
    · have s0 : slc ([] : List Int) 0 0 = some [] := rfl
      have m0 : mkz 1 (((l.flatten.length : Nat) : Int) - 0) = some () := by unfold mkz; rw [if_pos ⟨by omega, by omega, by omega⟩]
      rw [s0, Option.bind_some, m0]; rfl
    · rfl
  have L2 : loopN (slices_Concat_Lbyte_byte_L2 l) fuel ([], 0) = some l.flatten := by
    refine loop_eqF (s := (([] : List Int), (0 : Int))) (fun s => ∃ k : Nat, k ≤ l.length ∧ s = ((l.take k).flatten, (k : Int))) (fun s => l.length - s.2.toNat) (fun _ => l.flatten) ⟨0, by omega, rfl⟩ (by simp; omega) ?_
    rintro _ ⟨k, hkl, rfl⟩
    simp only [slices_Concat_Lbyte_byte_L2]
    by_cases c : k < l.length
    · right
      have q := hk (k + 1)
      have e := hs k c
      have ec := congrArg List.length e
      rw [List.length_append] at ec
      rw [if_pos (by simpa using c), idx_at c, Option.bind_some, app_of (by omega) (by omega), Option.bind_some, ← e, next3 (by omega)]
      exact ⟨_, rfl, ⟨k + 1, c, rfl⟩, by simp only [Int.toNat_natCast]; omega, trivial⟩
    · left
      have : k = l.length := by omega
      subst this
      rw [if_neg (by simp), List.take_length]; rfl
  unfold pack_Join slices_Concat_Lbyte_byte
  rw [L1, Option.bind_some, hg, Option.bind_some, L2]
  rfl

/-! sectors of a record -/
def p48 (t : List Int) : List Int := t.take 48 ++ List.replicate (48 - t.length) 0
theorem p48_len (t : List Int) : (p48 t).length = 48 := by simp [p48]; omega
def sec (G t : List Int) : List Int := G ++ p48 t ++ G
theorem sec_len {G : List Int} (hG : G.length = 8) (t : List Int) : (sec G t).length = 64 := by simp [sec, hG, p48_len]
/-- Sectors, written one behind another. -/
def wrAll (d : Pdisk_Disk) (i : Nat) : List (List Int) → Pdisk_Disk
  | [] => d
  | s :: r => wrAll (wrD d i s) (i + 1) r

theorem mks48 : mks 1 (0 : Int) 48 = some (List.replicate 48 0) := by unfold mks; rw [if_pos ⟨by omega, by omega, by omega⟩]; rfl
theorem cpy48 (t : List Int) : cpyL (List.replicate 48 (0 : Int)) 0 (List.replicate 48 (0 : Int)).length t = p48 t := by
  unfold cpyL p48
  rw [List.length_replicate, List.take_zero, List.nil_append, List.drop_replicate]
  congr 2
  omega


theorem p48_byt {t : List Int} (h : Byt t) : Byt (p48 t) := (h.take 48).app fun x hx => by have := (List.mem_replicate.1 hx).2; omega
theorem sec_byt {G t : List Int} (hG : Byt G) (h : Byt t) : Byt (sec G t) := (hG.app (p48_byt h)).app hG

/-- A record's bytes, as sectors. -/
def secsK (G t : List Int) (k : Nat) : List (List Int) := (List.range k).map fun j => sec G (t.drop (48 * j))
theorem secsK_len (G t : List Int) (k : Nat) : (secsK G t k).length = k := by simp [secsK]
theorem secsK_at {G t : List Int} {k j : Nat} (h : j < k) : (secsK G t k)[j]'(by rw [secsK_len]; exact h) = sec G (t.drop (48 * j)) := by simp [secsK]
theorem secsK_succ (G t : List Int) (k : Nat) : secsK G t (k + 1) = secsK G t k ++ [sec G (t.drop (48 * k))] := by simp [secsK, List.range_succ]
/-! lumps -/
theorem put_same : mementoref1_Put = pack_Put := rfl
theorem put301 : (List.range 301).all (fun n => match pack_Put [(n : Int)] with | some y => y.length == kN (n : Int) && y.all (fun x => decide (0 ≤ x ∧ x < 256)) | none => false) = true := by kernel_rfl
def putV (n : Nat) : List Int := (pack_Put [(n : Int)]).getD []
theorem putV_eq {n : Nat} (h : n ≤ 300) : pack_Put [(n : Int)] = some (putV n) ∧ (putV n).length = kN (n : Int) ∧ Byt (putV n) := by
  have q := List.all_eq_true.1 put301 n (List.mem_range.2 (by omega))
  unfold putV
  split at q
  · rename_i y e
    rw [Bool.and_eq_true] at q
    rw [e]
    refine ⟨rfl, by simpa using q.1, fun x hx => by simpa using List.all_eq_true.1 q.2 x hx⟩
  · cases q
def lumpB (b : List Int) : List Int := putV b.length ++ b
theorem lumpB_len {b : List Int} (h : b.length ≤ 300) : (lumpB b).length = kN (b.length : Int) + b.length := by unfold lumpB; rw [List.length_append, (putV_eq h).2.1]
theorem kN_le (n : Int) : 1 ≤ kN n ∧ kN n ≤ 2 := by unfold kN; split <;> omega
theorem lumpB_byt {b : List Int} (hb : Byt b) (h : b.length ≤ 300) : Byt (lumpB b) := (putV_eq h).2.2.app hb
theorem lump_eq {b : List Int} (h : b.length ≤ 300) : pack_Lump b = some (lumpB b) ∧ mementoref1_Lump b = some (lumpB b) := by
  obtain ⟨p1, p2, _⟩ := putV_eq h
  have hk := kN_le (b.length : Int)
  unfold pack_Lump mementoref1_Lump
  rw [put_same, wrap64u (by omega) (by omega), p1]
  refine ⟨?_, ?_⟩ <;> rw [Option.bind_some, app_of (by omega) (by omega)] <;> rfl
def recB (b : List Int) : List Int := sealL (lumpB b)
theorem recB_len {b : List Int} (h : b.length ≤ 300) : (recB b).length = kN (b.length : Int) + b.length + 4 := by unfold recB; rw [sealL_len, lumpB_len h]
theorem recB_byt {b : List Int} (hb : Byt b) (h : b.length ≤ 300) : Byt (recB b) := sealL_byt (lumpB_byt hb h)
def recK (b : List Int) : Nat := ((recB b).length + 47) / 48
theorem recK_nd {b : List Int} (h : b.length ≤ 300) : nd b.length = (recK b : Int) := by unfold nd recK; rw [recB_len h]; omega
theorem recK_le {b : List Int} (h : b.length ≤ 300) : 1 ≤ recK b ∧ recK b ≤ 7 := by
  have := kN_le (b.length : Int)
  unfold recK; rw [recB_len h]; omega

/-! the document's record -/
def padK (t : List Int) : List Int := t ++ List.replicate ((48 - t.length % 48) % 48) 0
theorem padK_len (t : List Int) : (padK t).length = 48 * ((t.length + 47) / 48) := by unfold padK; rw [List.length_append, List.length_replicate]; omega
theorem padK_at (t : List Int) (j : Nat) (h : 48 * j < t.length) : ((padK t).drop (48 * j)).take 48 = p48 (t.drop (48 * j)) := by
  unfold padK p48
  rw [List.drop_append_of_le_length (by omega)]
  by_cases c : 48 ≤ (t.drop (48 * j)).length
  · rw [List.take_append_of_le_length c, show 48 - (t.drop (48 * j)).length = 0 by omega]
    simp
  · rw [List.length_drop] at c
    rw [List.take_append, List.take_replicate]
    congr 2
    rw [List.length_drop]
    omega
theorem tmod48 (n : Nat) : Int.tmod (n : Int) 48 = ((n % 48 : Nat) : Int) := by rw [Int.tmod_eq_emod_of_nonneg (by omega)]; omega

theorem recL1 {t : List Int} (hl : t.length ≤ 1000) : loopN mementoref3_record_L1 fuel t = some (padK t) := by
  refine loop_eqF (fun s => ∃ m, m ≤ (48 - t.length % 48) % 48 ∧ s = t ++ List.replicate m 0) (fun s => t.length + 48 - s.length) (fun _ => padK t) ⟨0, by omega, by simp⟩ (by omega) ?_
  rintro _ ⟨m, hm, rfl⟩
  simp only [mementoref3_record_L1]
  have hlm : (t ++ List.replicate m (0 : Int)).length = t.length + m := by simp
  rw [hlm, tmod48]
  by_cases c : (t.length + m) % 48 = 0
  · left
    rw [c, if_neg (by simp)]
    have : m = (48 - t.length % 48) % 48 := by omega
    subst this
    rfl
  · right
    rw [if_pos (by simp; omega), app_of (by rw [hlm]; simp; omega) (by rw [hlm]; simp; omega), Option.bind_some]
    refine ⟨_, rfl, ⟨m + 1, by omega, by rw [List.append_assoc, ← List.replicate_succ']⟩, by simp; omega, trivial⟩

theorem eight_eq {g : Nat} : mementoref3_eight (g : Int) = some (leB 8 g) := by
  unfold mementoref3_eight
  rw [loop_eqF (s := (([] : List Int), (0 : Int))) (fun s => ∃ j : Nat, j ≤ 8 ∧ s = ((leB 8 g).take j, (j : Int))) (fun s => 8 - s.2.toNat) (fun _ => leB 8 g) ⟨0, by omega, rfl⟩ (by simp)]
  · rfl
  rintro _ ⟨j, hj, rfl⟩
  simp only [mementoref3_eight_L1]
  have l8 := leB_len 8 g
  by_cases h : j < 8
  · right
    rw [if_pos (by simp; omega), cnt8 h, Option.bind_some, shr8, wr8, app_of (by simp; omega) (by simp; omega), Option.bind_some, wnat4 (by omega)]
    refine ⟨_, rfl, ⟨j + 1, h, ?_⟩, by simp only [Int.toNat_natCast]; omega, trivial⟩
    rw [List.take_succ_eq_append_getElem (by omega), leB_at]
  · left
    have : j = 8 := by omega
    subst this
    rw [if_neg (by simp), List.take_of_length_le (by omega)]
    rfl

theorem recL2 {g : Nat} {t : List Int} (hl : t.length ≤ 1000) : loopN (mementoref3_record_L2 (g : Int) (padK t)) fuel (([] : List (List Int)), 0) = some (secsK (leB 8 g) t ((t.length + 47) / 48)) := by
  have hpl := padK_len t
  have l8 := leB_len 8 g
  refine loop_eqF (s := (([] : List (List Int)), (0 : Int))) (fun s => ∃ j : Nat, j ≤ (t.length + 47) / 48 ∧ s = (secsK (leB 8 g) t j, ((48 * j : Nat) : Int))) (fun s => (padK t).length - s.2.toNat) (fun _ => secsK (leB 8 g) t ((t.length + 47) / 48)) ⟨0, by omega, rfl⟩ (by simp; omega) ?_
  rintro _ ⟨j, hj, rfl⟩
  simp only [mementoref3_record_L2]
  by_cases h : j < (t.length + 47) / 48
  · right
    have e1 : IntKind.wrap .i64 (((48 * j : Nat) : Int) + 48) = ((48 * (j + 1) : Nat) : Int) := by rw [wrap64 (by omega) (by omega)]; omega
    have s1 : slc (padK t) ((48 * j : Nat) : Int) ((48 * (j + 1) : Nat) : Int) = some (p48 (t.drop (48 * j))) := by
      rw [slc_nat _ (by omega) (by omega), ← padK_at t j (by omega), List.drop_take]
      congr 2; omega
    have hp := p48_len (t.drop (48 * j))
    have hs := secsK_len (leB 8 g) t j
    rw [if_pos (by simp; omega), eight_eq, Option.bind_some, e1, s1, Option.bind_some, app_of (by omega) (by omega), Option.bind_some, app_of (by simp; omega) (by simp; omega), Option.bind_some, app_of (by simp; omega) (by simp; omega), Option.bind_some]
    refine ⟨_, rfl, ⟨j + 1, h, ?_⟩, by simp only [Int.toNat_natCast]; omega, trivial⟩
    rw [secsK_succ]
    rfl
  · left
    have : j = (t.length + 47) / 48 := by omega
    subst this
    rw [if_neg (by simp; omega)]
    rfl

theorem record_eq {g : Nat} {b : List Int} (hb : Byt b) (h : b.length ≤ 300) : mementoref3_record (g : Int) b = some (secsK (leB 8 g) (recB b) (recK b)) := by
  unfold mementoref3_record
  have hk := kN_le (b.length : Int)
  have hl := recB_len h
  rw [(lump_eq h).2, Option.bind_some, (seal_eq (lumpB_byt hb h) (by rw [lumpB_len h]; omega)).2, Option.bind_some]
  have e1 := recL1 (t := recB b) (by omega)
  have e2 := recL2 (g := g) (t := recB b) (by omega)
  unfold recB at e1 e2
  rw [e1, Option.bind_some, e2]
  rfl
theorem refNeed_eq {l : List (List Int)} (hl : l.length ≤ 100) (h : ∀ x ∈ l, Byt x ∧ x.length ≤ 300) : mementoref3_Need l = some (tot l) := by
  unfold mementoref3_Need
  rw [loop_eqF (s := ((0 : Int), (0 : Int))) (fun s => ∃ j : Nat, s = (tot (l.take j), (j : Int)) ∧ j ≤ l.length ∧ 0 ≤ tot (l.take j) ∧ tot (l.take j) ≤ 400 * j) (fun s => l.length - s.2.toNat) (fun _ => tot l) ⟨0, rfl, by omega, by simp [tot], by simp [tot]⟩ (by simp; omega)]
  · rfl
  rintro _ ⟨j, rfl, hj, t0, t1⟩
  simp only [mementoref3_Need_L1]
  by_cases hjl : j < l.length
  · right
    obtain ⟨h1, h2⟩ := h _ (List.getElem_mem hjl)
    have hr := record_eq (g := 0) h1 h2
    rw [show ((0 : Nat) : Int) = 0 from rfl] at hr
    have hk := recK_le h2
    have hnd := recK_nd h2
    rw [if_pos (by simpa using hjl), idx_at hjl, Option.bind_some, hr, Option.bind_some, secsK_len, ← hnd, wrap64 (by omega) (by omega), next3 (by omega), ← tot_take hjl]
    exact ⟨_, rfl, ⟨j + 1, rfl, hjl, by rw [tot_take hjl]; omega, by rw [tot_take hjl]; omega⟩, by simp only; omega, trivial⟩
  · left
    have : j = l.length := by omega
    subst this
    rw [if_neg (by simp), List.take_length]
    rfl
end Go.Proofs.Yteclchefihcjkaa.Am
