/- Slots: their bytes, and what is read of any bytes. -/
import Derived.Test.YteclchefihcjkaaS4
import Derived.Test.YteclchefihcjkaaO0
import Derived.Laws.BitsLemmas
import Derived.Lib.EndianBits
import Derived.KernelRfl
namespace Go.Proofs.Yteclchefihcjkaa.Am
open Go
set_option linter.unusedVariables false
set_option linter.unusedSimpArgs false
set_option maxRecDepth 100000

theorem known4 : mementolaw4_known = some true := by kernel_rfl
theorem wnat4 {k : Nat} (h : k ≤ 1000000) : IntKind.wrap .i64 ((k : Int) + 1) = ((k + 1 : Nat) : Int) := by rw [wrap64 (by omega) (by omega)]; omega

/-- So many bytes of a number, the lowest first; a number of bytes. -/
def leB : Nat → Nat → List Int
  | 0, _ => []
  | k + 1, n => ((n % 256 : Nat) : Int) :: leB k (n / 256)
def leV : List Int → Nat
  | [] => 0
  | x :: l => x.toNat + 256 * leV l
theorem leB_len : ∀ (k n : Nat), (leB k n).length = k
  | 0, _ => rfl
  | k + 1, n => by simp [leB, leB_len k]
theorem leB_byt : ∀ (k n : Nat), Byt (leB k n)
  | 0, _ => by intro x h; cases h
  | k + 1, n => by
    intro x h
    rcases List.mem_cons.1 h with rfl | h
    · omega
    · exact leB_byt k _ x h
theorem leB_at : ∀ (k n j : Nat) (h : j < (leB k n).length), (leB k n)[j] = ((n / 256 ^ j % 256 : Nat) : Int)
  | 0, _, _, h => by simp [leB] at h
  | k + 1, n, 0, h => by simp [leB]
  | k + 1, n, j + 1, h => by
    simp only [leB, List.getElem_cons_succ]
    rw [leB_at k (n / 256) j, Nat.div_div_eq_div_mul, Nat.pow_succ']
theorem leV_leB : ∀ (k n : Nat), n < 256 ^ k → leV (leB k n) = n
  | 0, n, h => by simp at h; subst h; rfl
  | k + 1, n, h => by
    have : n / 256 < 256 ^ k := by rw [Nat.pow_succ] at h; exact Nat.div_lt_of_lt_mul (by rw [Nat.mul_comm]; exact h)
    simp only [leB, leV, leV_leB k _ this]
    omega
theorem leV_lt : ∀ {l : List Int}, Byt l → leV l < 256 ^ l.length
  | [], _ => by simp [leV]
  | x :: l, h => by
    have h1 := h x (by simp)
    have h2 := leV_lt (l := l) (fun y hy => h y (by simp [hy]))
    simp only [leV, List.length_cons, Nat.pow_succ]
    omega
theorem leV_snoc : ∀ (l : List Int) (x : Int), leV (l ++ [x]) = leV l + 256 ^ l.length * x.toNat
  | [], x => by simp [leV]
  | y :: l, x => by
    simp only [List.cons_append, leV, leV_snoc l x, List.length_cons, Nat.pow_succ, Nat.mul_add]
    rw [Nat.mul_comm (256 ^ l.length) 256, Nat.mul_assoc]
    omega
theorem pow8 (j : Nat) : (2 : Nat) ^ (8 * j) = 256 ^ j := by rw [Nat.pow_mul]
theorem pow8i (j : Nat) : (2 : Int) ^ (8 * j) = ((256 ^ j : Nat) : Int) := by rw [← pow8]; simp
theorem pw_le {a b : Nat} (h : a ≤ b) : 256 ^ a ≤ 256 ^ b := Nat.pow_le_pow_right (by decide) h
theorem cnt8 {j : Nat} (h : j < 8) : cnt .u64 (IntKind.wrap .i64 (8 * (j : Int))) = some (8 * j) := by
  rw [wrap64 (by omega) (by omega)]
  unfold cnt
  rw [if_pos (by omega)]
  congr 1
  show min ((8 * (j : Int))).toNat 64 = 8 * j
  omega
theorem shr8 (n j : Nat) : shrI (n : Int) (8 * j) = ((n / 256 ^ j : Nat) : Int) := by
  unfold shrI; rw [pow8i]; simp

theorem wr8 (m : Nat) : IntKind.wrap .u8 (m : Int) = ((m % 256 : Nat) : Int) := by rw [IntKind.wrap_u8]; omega

theorem num_eq (n : Nat) : slot_num (n : Int) = some (leB 8 n) := by
  have l8 := leB_len 8 n
  unfold slot_num mks
  rw [if_pos ⟨by omega, by omega, by omega⟩, Option.bind_some]
  rw [loop_eqF (fun s => ∃ j : Nat, j ≤ 8 ∧ s = ((j : Int), (leB 8 n).take j ++ List.replicate (8 - j) 0)) (fun s => 8 - s.1.toNat) (fun _ => leB 8 n) ⟨0, by omega, rfl⟩ (by simp)]
  · rfl
  rintro _ ⟨j, hj, rfl⟩
  simp only [slot_num_L1]
  have ln : (List.replicate (Int.toNat 8) (0 : Int)).length = 8 := rfl
  rw [ln]
  by_cases h : j < 8
  · right
    have lm : ((leB 8 n).take j ++ List.replicate (8 - j) 0).length = 8 := by simp; omega
    rw [if_pos (by simp; omega), cnt8 h, Option.bind_some, idx_at (by omega), Option.bind_some, shr8, wr8, updL_nat (by omega), Option.bind_some, wnat4 (by omega)]
    refine ⟨_, rfl, ⟨j + 1, h, ?_⟩, by simp only [Int.toNat_natCast]; omega, trivial⟩
    rw [List.set_append_right _ _ (by simp; omega), List.length_take, Nat.min_eq_left (by omega), Nat.sub_self, List.take_succ_eq_append_getElem (by omega), leB_at]
    obtain ⟨m, hm⟩ : ∃ m, 8 - j = m + 1 := ⟨8 - j - 1, by omega⟩
    rw [hm, List.replicate_succ, List.set_cons_zero, show 8 - (j + 1) = m by omega, List.append_assoc]
    rfl
  · left
    have : j = 8 := by omega
    subst this
    rw [if_neg (by simp), List.take_of_length_le (by omega)]
    simp [early]
theorem read8_eq {b : List Int} (hl : 8 ≤ b.length) (hb : Byt b) : slot_read b = some (leV (b.take 8) : Int) := by
  unfold slot_read
  have s1 : slc b 0 8 = some (b.take 8) := slc_nat b (a := 0) (b := 8) (by omega) hl
  rw [s1, Option.bind_some]
  generalize hm : b.take 8 = m
  have ml : m.length = 8 := by rw [← hm, List.length_take]; omega
  have mb : Byt m := fun x h => hb x (List.mem_of_mem_take (hm ▸ h))
  rw [loop_eqF (s := (0, 0)) (fun s => ∃ j : Nat, j ≤ 8 ∧ s = ((leV (m.take j) : Int), (j : Int))) (fun s => 8 - s.2.toNat) (fun _ => (leV m : Int)) ⟨0, by omega, rfl⟩ (by simp)]
  · rfl
  rintro _ ⟨j, hj, rfl⟩
  simp only [slot_read_L1]
  by_cases h : j < 8
  · right
    have hx := mb _ (List.getElem_mem (show j < m.length by omega))
    rw [if_pos (by simp; omega), idx_at (by omega), Option.bind_some, cnt8 h, Option.bind_some, wnat4 (by omega)]
    have lt := leV_lt (l := m.take j) (fun x h => mb x (List.mem_of_mem_take h))
    rw [List.length_take, Nat.min_eq_left (by omega)] at lt
    have p1 := pw_le (show j + 1 ≤ 8 by omega)
    have p2 : (256 : Nat) ^ 8 = 18446744073709551616 := by decide
    have p3 := pw_le (show j ≤ 8 by omega)
    obtain ⟨x, hxe⟩ := Int.eq_ofNat_of_zero_le hx.1
    have hx256 : x < 256 := by omega
    have p4 : 256 ^ j * x + 256 ^ j ≤ 256 ^ (j + 1) := by rw [Nat.pow_succ, ← Nat.mul_succ]; exact Nat.mul_le_mul_left _ hx256
    have hw : shlI .u64 (IntKind.wrap .u64 m[j]) (8 * j) = ((256 ^ j * x : Nat) : Int) := by
      rw [hxe, wrap64u (by omega) (by omega)]
      unfold shlI
      rw [pow8i, show (x : Int) * ((256 ^ j : Nat) : Int) = ((256 ^ j * x : Nat) : Int) by rw [Nat.mul_comm]; simp, wrap64u (by omega) (by omega)]
    have hor : Go.bits .or .u64 (leV (m.take j) : Int) ((256 ^ j * x : Nat) : Int) = (leV (m.take (j + 1)) : Int) := by
      rw [bits_join_low .u64 64 (by decide) wraps_u64 (8 * j) (leV (m.take j) : Int) ((256 ^ j * x : Nat) : Int) (by omega) (by rw [pow8i]; omega) (by omega) (by omega) (by rw [pow8i, Int.natCast_mul, Int.mul_emod_right]) (by omega)]
      rw [List.take_succ_eq_append_getElem (by omega), leV_snoc, List.length_take, Nat.min_eq_left (by omega), hxe]
      simp
    rw [hw, hor]
    exact ⟨_, rfl, ⟨j + 1, h, rfl⟩, by simp only [Int.toNat_natCast]; omega, trivial⟩
  · left
    have : j = 8 := by omega
    subst this
    rw [if_neg (by simp; omega), List.take_of_length_le (by omega)]
    rfl
/-- A slot's bytes. -/
def ptS (c g a : Nat) : List Int := leB 8 c ++ leB 8 g ++ leB 8 a ++ List.replicate 32 0 ++ leB 8 c
theorem ptS_len (c g a : Nat) : (ptS c g a).length = 64 := by simp [ptS, leB_len]
theorem ptS_byt (c g a : Nat) : Byt (ptS c g a) := by
  intro x h
  simp only [ptS, List.mem_append, List.mem_replicate] at h
  rcases h with (((h | h) | h) | h) | h
  · exact leB_byt _ _ x h
  · exact leB_byt _ _ x h
  · exact leB_byt _ _ x h
  · omega
  · exact leB_byt _ _ x h
theorem cpy4 {y z w : List Int} (hy : y.length = 8) (hz : z.length = 8) (hw : w.length = 8) :
    cpyL (cpyL (cpyL (cpyL (List.replicate 64 0) 0 64 y) 8 56 z) 16 48 w) 56 8 y = y ++ z ++ w ++ List.replicate 32 0 ++ y := by
  match y, hy, z, hz, w, hw with
  | [a0, a1, a2, a3, a4, a5, a6, a7], _, [b0, b1, b2, b3, b4, b5, b6, b7], _, [c0, c1, c2, c3, c4, c5, c6, c7], _ => rfl
theorem put4_eq (c g : Nat) (a : Int) (ha : a ≤ 9223372036854775807) : slot_Put ⟨c, g, a⟩ = some (ptS c g (maxI a 0).toNat) := by
  unfold slot_Put
  have em : mks 1 (0 : Int) 64 = some (List.replicate 64 0) := by unfold mks; rw [if_pos ⟨by omega, by omega, by omega⟩]; rfl
  have ma : 0 ≤ maxI a 0 ∧ maxI a 0 ≤ 9223372036854775807 := by unfold maxI; split <;> omega
  obtain ⟨q, hq⟩ := Int.eq_ofNat_of_zero_le ma.1
  have s1 : slcH 64 8 ((64 : Nat) : Int) = some (8, 56) := by unfold slcH; rw [if_pos ⟨by omega, by omega, by omega⟩]; rfl
  have s2 : slcH 64 16 ((64 : Nat) : Int) = some (16, 48) := by unfold slcH; rw [if_pos ⟨by omega, by omega, by omega⟩]; rfl
  have s3 : slcH 64 (IntKind.wrap .i64 (((64 : Nat) : Int) - 8)) ((64 : Nat) : Int) = some (56, 8) := by rw [wrap64 (by omega) (by omega)]; unfold slcH; rw [if_pos ⟨by omega, by omega, by omega⟩]; rfl
  rw [em, Option.bind_some]
  simp only [List.length_replicate]
  rw [num_eq, Option.bind_some, s1, Option.bind_some]
  dsimp only
  rw [num_eq, Option.bind_some, s2, Option.bind_some]
  dsimp only
  rw [wrap64u (by omega) (by omega), hq, num_eq, Option.bind_some, s3, Option.bind_some]
  dsimp only
  rw [cpy4 (leB_len _ _) (leB_len _ _) (leB_len _ _), Int.toNat_natCast]
  rfl
end Go.Proofs.Yteclchefihcjkaa.Am
