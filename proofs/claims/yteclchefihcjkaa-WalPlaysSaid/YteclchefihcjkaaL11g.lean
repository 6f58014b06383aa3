/- Eight bytes of a number. -/
import Derived.Test.YteclchefihcjkaaL11m
import Derived.Laws.BitsLemmas
import Derived.Lib.EndianBits
namespace Go.Proofs.Yteclchefihcjkaa.Am
open Go
set_option linter.unusedVariables false
set_option linter.unusedSimpArgs false
set_option maxRecDepth 100000

theorem wnat4 {k : Nat} (h : k ≤ 1000000) : IntKind.wrap .i64 ((k : Int) + 1) = ((k + 1 : Nat) : Int) := by rw [wrap64 (by omega) (by omega)]; omega
/-- So many bytes of a number, the lowest first; a number of bytes. -/
def leB : Nat → Nat → List Int
  | 0, _ => []
  | k + 1, n => ((n % 256 : Nat) : Int) :: leB k (n / 256)
def leV : List Int → Nat
  | [] => 0
  | x :: l => x.toNat + 256 * leV l
theorem leB_len : ∀ (k n : Nat), (leB k n).length = k
  | 0, _ => rfl
  | k + 1, n => by simp [leB, leB_len k]
theorem leB_byt : ∀ (k n : Nat), Byt (leB k n)
  | 0, _ => by intro x h; cases h
  | k + 1, n => by
    intro x h
    rcases List.mem_cons.1 h with rfl | h
    · omega
    · exact leB_byt k _ x h
theorem leB_at : ∀ (k n j : Nat) (h : j < (leB k n).length), (leB k n)[j] = ((n / 256 ^ j % 256 : Nat) : Int)
  | 0, _, _, h => by simp [leB] at h
  | k + 1, n, 0, h => by simp [leB]
  | k + 1, n, j + 1, h => by
    simp only [leB, List.getElem_cons_succ]
    rw [leB_at k (n / 256) j, Nat.div_div_eq_div_mul, Nat.pow_succ']
theorem leV_leB : ∀ (k n : Nat), n < 256 ^ k → leV (leB k n) = n
  | 0, n, h => by simp at h; subst h; rfl
  | k + 1, n, h => by
    have : n / 256 < 256 ^ k := by rw [Nat.pow_succ] at h; exact Nat.div_lt_of_lt_mul (by rw [Nat.mul_comm]; exact h)
    simp only [leB, leV, leV_leB k _ this]
    omega
theorem leV_lt : ∀ {l : List Int}, Byt l → leV l < 256 ^ l.length
  | [], _ => by simp [leV]
  | x :: l, h => by
    have h1 := h x (by simp)
    have h2 := leV_lt (l := l) (fun y hy => h y (by simp [hy]))
    simp only [leV, List.length_cons, Nat.pow_succ]
    omega
theorem pow8 (j : Nat) : (2 : Nat) ^ (8 * j) = 256 ^ j := by rw [Nat.pow_mul]
theorem pow8i (j : Nat) : (2 : Int) ^ (8 * j) = ((256 ^ j : Nat) : Int) := by rw [← pow8]; simp
theorem pw_le {a b : Nat} (h : a ≤ b) : 256 ^ a ≤ 256 ^ b := Nat.pow_le_pow_right (by decide) h
theorem cnt8 {j : Nat} (h : j < 8) : cnt .u64 (IntKind.wrap .i64 (8 * (j : Int))) = some (8 * j) := by
  rw [wrap64 (by omega) (by omega)]
  unfold cnt
  rw [if_pos (by omega)]
  congr 1
  show min ((8 * (j : Int))).toNat 64 = 8 * j
  omega
theorem shr8 (n j : Nat) : shrI (n : Int) (8 * j) = ((n / 256 ^ j : Nat) : Int) := by
  unfold shrI; rw [pow8i]; simp

theorem wr8 (m : Nat) : IntKind.wrap .u8 (m : Int) = ((m % 256 : Nat) : Int) := by rw [IntKind.wrap_u8]; omega

theorem num_eq (n : Nat) : wal_num (n : Int) = some (leB 8 n) := by
  have l8 := leB_len 8 n
  unfold wal_num mks
  rw [if_pos ⟨by omega, by omega, by omega⟩, Option.bind_some]
  rw [loop_eqF (fun s => ∃ j : Nat, j ≤ 8 ∧ s = ((j : Int), (leB 8 n).take j ++ List.replicate (8 - j) 0)) (fun s => 8 - s.1.toNat) (fun _ => leB 8 n) ⟨0, by omega, rfl⟩ (by simp)]
  · rfl
  rintro _ ⟨j, hj, rfl⟩
  simp only [wal_num_L1]
  have ln : (List.replicate (Int.toNat 8) (0 : Int)).length = 8 := rfl
  rw [ln]
  by_cases h : j < 8
  · right
    have lm : ((leB 8 n).take j ++ List.replicate (8 - j) 0).length = 8 := by simp; omega
    rw [if_pos (by simp; omega), cnt8 h, Option.bind_some, idx_at (by omega), Option.bind_some, shr8, wr8, updL_nat (by omega), Option.bind_some, wnat4 (by omega)]
    refine ⟨_, rfl, ⟨j + 1, h, ?_⟩, by simp only [Int.toNat_natCast]; omega, trivial⟩
    rw [List.set_append_right _ _ (by simp; omega), List.length_take, Nat.min_eq_left (by omega), Nat.sub_self, List.take_succ_eq_append_getElem (by omega), leB_at]
    obtain ⟨m, hm⟩ : ∃ m, 8 - j = m + 1 := ⟨8 - j - 1, by omega⟩
    rw [hm, List.replicate_succ, List.set_cons_zero, show 8 - (j + 1) = m by omega, List.append_assoc]
    rfl
  · left
    have : j = 8 := by omega
    subst this
    rw [if_neg (by simp), List.take_of_length_le (by omega)]
    simp [early]
theorem strOf_inj {a b : List Int} (ha : Byt a) (hb : Byt b) (h : strOf a = strOf b) : a = b := by
  have inv : ∀ {l : List Int}, Byt l → (strOf l).map ofU8 = l := fun {l} hl => by
    unfold strOf
    rw [List.map_map]
    conv => rhs; rw [← List.map_id l]
    apply List.map_congr_left
    intro x hx
    obtain ⟨h0, h1⟩ := hl x hx
    simp only [Function.comp, ofU8, u8, id]
    rw [UInt8.toNat_ofNat']
    omega
  rw [← inv ha, ← inv hb, h]
end Go.Proofs.Yteclchefihcjkaa.Am
