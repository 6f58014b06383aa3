/- Sums: the code's and the document's are one. -/
import Derived.Test.YteclchefihcjkaaL11m
namespace Go.Proofs.Yteclchefihcjkaa.Am
open Go
set_option linter.unusedVariables false
set_option linter.unusedSimpArgs false
set_option maxRecDepth 100000

theorem wrap32_mod (n : Int) : IntKind.u32.wrap n = n % 4294967296 := by simp [IntKind.wrap, IntKind.bits, IntKind.signed]

theorem xor32 (a b : Nat) (ha : a < 4294967296) (hb : b < 4294967296) : Go.bits .xor .u32 (a : Int) (b : Int) = ((a ^^^ b : Nat) : Int) := by
  have hx : a ^^^ b < 2 ^ 32 := Nat.xor_lt_two_pow (by omega) (by omega)
  have h1 : (BitVec.ofInt 32 (a : Int)).toNat = a := by
    rw [BitVec.ofInt_natCast, BitVec.toNat_ofNat]; exact Nat.mod_eq_of_lt (by omega)
  have h2 : (BitVec.ofInt 32 (b : Int)).toNat = b := by
    rw [BitVec.ofInt_natCast, BitVec.toNat_ofNat]; exact Nat.mod_eq_of_lt (by omega)
  show IntKind.u32.wrap ((BitVec.ofInt 32 (a : Int) ^^^ BitVec.ofInt 32 (b : Int)).toNat : Int) = _
  rw [BitVec.toNat_xor, h1, h2, wrap32_mod]
  omega

theorem and32 (a b : Nat) (ha : a < 4294967296) (hb : b < 4294967296) : Go.bits .and .u32 (a : Int) (b : Int) = ((a &&& b : Nat) : Int) := by
  have hx : a &&& b < 2 ^ 32 := Nat.and_lt_two_pow _ (by omega)
  have h1 : (BitVec.ofInt 32 (a : Int)).toNat = a := by
    rw [BitVec.ofInt_natCast, BitVec.toNat_ofNat]; exact Nat.mod_eq_of_lt (by omega)
  have h2 : (BitVec.ofInt 32 (b : Int)).toNat = b := by
    rw [BitVec.ofInt_natCast, BitVec.toNat_ofNat]; exact Nat.mod_eq_of_lt (by omega)
  show IntKind.u32.wrap ((BitVec.ofInt 32 (a : Int) &&& BitVec.ofInt 32 (b : Int)).toNat : Int) = _
  rw [BitVec.toNat_and, h1, h2, wrap32_mod]
  omega

def bitN (c : Nat) : Nat := (c / 2) ^^^ (if c % 2 = 1 then 2197175160 else 0)
def bitsN : Nat → Nat → Nat
  | 0, c => c
  | n + 1, c => bitsN n (bitN c)
theorem xor_lt32 {a b : Nat} (ha : a < 4294967296) (hb : b < 4294967296) : a ^^^ b < 4294967296 := Nat.xor_lt_two_pow (n := 32) ha hb

theorem bitN_lt {c : Nat} (h : c < 4294967296) : bitN c < 4294967296 := by
  unfold bitN
  exact xor_lt32 (by omega) (by split <;> omega)

theorem bitsN_lt {n c : Nat} (h : c < 4294967296) : bitsN n c < 4294967296 := by
  induction n generalizing c with
  | zero => exact h
  | succ n ih => exact ih (bitN_lt h)

theorem bitN_xor (a b : Nat) : bitN (a ^^^ b) = bitN a ^^^ bitN b := by
  unfold bitN
  have h1 : (a ^^^ b) / 2 = a / 2 ^^^ b / 2 := by
    apply Nat.eq_of_testBit_eq; intro i
    simp [Nat.testBit_div_two, Nat.testBit_xor]
  have h2 : (a ^^^ b) % 2 = (a % 2 + b % 2) % 2 := by
    have := @Nat.xor_mod_two_eq_one a b
    omega
  rw [h1, h2]
  rcases Nat.mod_two_eq_zero_or_one a with ea | ea <;> rcases Nat.mod_two_eq_zero_or_one b with eb | eb <;> rw [ea, eb] <;> simp [Nat.xor_assoc]
  · rw [Nat.xor_comm (b / 2), ← Nat.xor_assoc]
  · rw [Nat.xor_comm (b / 2) 2197175160, ← Nat.xor_assoc 2197175160, Nat.xor_self, Nat.zero_xor]

theorem bitsN_xor (n a b : Nat) : bitsN n (a ^^^ b) = bitsN n a ^^^ bitsN n b := by
  induction n generalizing a b with
  | zero => rfl
  | succ n ih => simp only [bitsN]; rw [bitN_xor, ih]

theorem bitN_even (x : Nat) : bitN (2 * x) = x := by unfold bitN; simp
theorem bitsN_pow (n x : Nat) : bitsN n (2 ^ n * x) = x := by
  induction n generalizing x with
  | zero => simp [bitsN]
  | succ n ih =>
    simp only [bitsN]
    rw [show 2 ^ (n + 1) * x = 2 * (2 ^ n * x) by rw [Nat.pow_succ]; rw [Nat.mul_comm (2 ^ n) 2, Nat.mul_assoc], bitN_even, ih]

theorem split8 (c : Nat) : c = (c % 256) ^^^ (2 ^ 8 * (c / 256)) := by
  apply Nat.eq_of_testBit_eq; intro i
  rw [Nat.testBit_xor, show (256 : Nat) = 2 ^ 8 by rfl, Nat.testBit_mod_two_pow, Nat.testBit_two_pow_mul, Nat.testBit_div_two_pow]
  by_cases h : i < 8
  · simp [h, show ¬ 8 ≤ i by omega]
  · simp [h, show 8 ≤ i by omega, Nat.sub_add_cancel]

theorem row_step (c x : Nat) : bitsN 8 (c ^^^ x) = bitsN 8 ((c &&& 255) ^^^ x) ^^^ (c / 256) := by
  rw [show (c &&& 255) = c % 256 from Nat.and_two_pow_sub_one_eq_mod c 8]
  conv => lhs; rw [split8 c]
  rw [Nat.xor_assoc, Nat.xor_comm (2 ^ 8 * (c / 256)) x, ← Nat.xor_assoc, bitsN_xor, bitsN_pow]


theorem bitsN_succ (n c : Nat) : bitsN (n + 1) c = bitsN n (bitN c) := rfl
/-- Bytes of a row, taken into a sum. -/
def bytesI (c : Nat) (l : List Int) : Nat := l.foldl (fun c x => bitsN 8 (c ^^^ x.toNat)) c
theorem bytesI_lt : ∀ {l : List Int} {c : Nat}, Byt l → c < 4294967296 → bytesI c l < 4294967296
  | [], _, _, h => h
  | x :: l, c, hb, h => by
    have hx := hb x (List.mem_cons_self ..)
    exact bytesI_lt (l := l) (fun y hy => hb y (List.mem_cons_of_mem _ hy)) (bitsN_lt (xor_lt32 h (by omega)))

theorem step_code {c : Nat} (h : c < 4294967296) : Go.bits .xor .u32 (shrI (c : Int) 1) (IntKind.wrap .u32 (2197175160 * (Go.bits .and .u32 (c : Int) 1))) = (bitN c : Nat) := by
  unfold bitN
  have h1 : Go.bits .and .u32 (c : Int) 1 = ((c % 2 : Nat) : Int) := by
    have := and32 c 1 h (by omega)
    rw [Nat.and_one_is_mod] at this
    exact this
  have hs : shrI (c : Int) 1 = ((c / 2 : Nat) : Int) := by unfold shrI; omega
  rw [h1, hs]
  have h2 : IntKind.u32.wrap (2197175160 * ((c % 2 : Nat) : Int)) = ((if c % 2 = 1 then 2197175160 else 0 : Nat) : Int) := by
    rw [wrap32_mod]
    rcases Nat.mod_two_eq_zero_or_one c with e | e <;> rw [e] <;> rfl
  rw [h2]
  exact xor32 _ _ (by omega) (by split <;> omega)
theorem step_ref {c : Nat} (h : c < 4294967296) : (if ((Go.bits .and .u32 (c : Int) 1) == 1) then (some (Go.bits .xor .u32 (shrI (c : Int) 1) 2197175160)) else (some (shrI (c : Int) 1))) = some ((bitN c : Nat) : Int) := by
  unfold bitN
  have h1 : Go.bits .and .u32 (c : Int) 1 = ((c % 2 : Nat) : Int) := by
    have := and32 c 1 h (by omega)
    rw [Nat.and_one_is_mod] at this
    exact this
  have hs : shrI (c : Int) 1 = ((c / 2 : Nat) : Int) := by unfold shrI; omega
  rw [h1, hs]
  rcases Nat.mod_two_eq_zero_or_one c with e | e
  · rw [e, if_neg (by simp), if_neg (by omega), Nat.xor_zero]
  · rw [e, if_pos (by simp), if_pos rfl]
    exact congrArg some (xor32 _ 2197175160 (by omega) (by omega))

theorem code8 {c : Nat} (h : c < 4294967296) : loopN crc_More_L2 fuel ((c : Int), 0) = some ((bitsN 8 c : Nat) : Int) := by
  refine loop_eqF (fun s => ∃ (k v : Nat), s = ((v : Int), (k : Int)) ∧ k ≤ 8 ∧ v < 4294967296) (fun s => (8 - s.2).toNat) (fun s => ((bitsN (8 - s.2.toNat) s.1.toNat : Nat) : Int)) ⟨0, c, rfl, by omega, h⟩ (by simp) ?_
  rintro _ ⟨k, v, rfl, hk, hv⟩
  simp only [crc_More_L2]
  by_cases q : k < 8
  · right
    rw [if_pos (by simp; omega), step_code hv, next3 (by omega)]
    refine ⟨_, rfl, ⟨k + 1, bitN v, rfl, q, bitN_lt hv⟩, by simp only; omega, ?_⟩
    simp only [Int.toNat_natCast]
    rw [show 8 - k = (8 - (k + 1)) + 1 by omega, bitsN_succ]
  · left
    have : k = 8 := by omega
    subst this
    rw [if_neg (by simp)]
    rfl
theorem ref8 {c : Nat} (h : c < 4294967296) : mementoref1_row (c : Int) = some ((bitsN 8 c : Nat) : Int) := by
  unfold mementoref1_row
  rw [loop_eqF (s := ((c : Int), 0)) (fun s => ∃ (k v : Nat), s = ((v : Int), (k : Int)) ∧ k ≤ 8 ∧ v < 4294967296) (fun s => (8 - s.2).toNat) (fun s => ((bitsN (8 - s.2.toNat) s.1.toNat : Nat) : Int)) ⟨0, c, rfl, by omega, h⟩ (by simp)]
  · simp
  rintro _ ⟨k, v, rfl, hk, hv⟩
  simp only [mementoref1_row_L1]
  by_cases q : k < 8
  · right
    rw [if_pos (by simp; omega), step_ref hv, Option.bind_some, next3 (by omega)]
    refine ⟨_, rfl, ⟨k + 1, bitN v, rfl, q, bitN_lt hv⟩, by simp only; omega, ?_⟩
    simp only [Int.toNat_natCast]
    rw [show 8 - k = (8 - (k + 1)) + 1 by omega, bitsN_succ]
  · left
    have : k = 8 := by omega
    subst this
    rw [if_neg (by simp)]
    rfl

theorem byt_at {b : List Int} (hb : Byt b) {k : Nat} (h : k < b.length) : ∃ x : Nat, b[k] = (x : Int) ∧ x < 256 := by
  have := hb _ (List.getElem_mem h)
  exact ⟨b[k].toNat, by omega, by omega⟩
theorem wrap32b {x : Nat} (h : x < 256) : IntKind.wrap .u32 (x : Int) = (x : Int) := by rw [wrap32_mod]; omega
theorem bytesI_drop {b : List Int} {k x : Nat} (h : k < b.length) (hx : b[k] = (x : Int)) (v : Nat) : bytesI v (b.drop k) = bytesI (bitsN 8 (v ^^^ x)) (b.drop (k + 1)) := by
  rw [List.drop_eq_getElem_cons h, hx]
  rfl

theorem codeB {b : List Int} (hb : Byt b) (hl : b.length ≤ 1000000) {c : Nat} (h : c < 4294967296) : loopN (crc_More_L1 b) fuel ((c : Int), 0) = some ((bytesI c b : Nat) : Int) := by
  refine loop_eqF (s := ((c : Int), 0)) (fun s => ∃ (k v : Nat), s = ((v : Int), (k : Int)) ∧ k ≤ b.length ∧ v < 4294967296) (fun s => b.length - s.2.toNat) (fun s => ((bytesI s.1.toNat (b.drop s.2.toNat) : Nat) : Int)) ⟨0, c, rfl, by omega, h⟩ (by simp; omega) ?_
  rintro _ ⟨k, v, rfl, hk, hv⟩
  simp only [crc_More_L1]
  by_cases q : k < b.length
  · right
    obtain ⟨x, hx, hx2⟩ := byt_at hb q
    rw [if_pos (by simp; omega), idx_at q, Option.bind_some, hx, wrap32b hx2, xor32 v x hv (by omega), code8 (xor_lt32 hv (by omega)), Option.bind_some, next3 (by omega)]
    refine ⟨_, rfl, ⟨k + 1, _, rfl, q, bitsN_lt (xor_lt32 hv (by omega))⟩, by simp only [Int.toNat_natCast]; omega, ?_⟩
    simp only [Int.toNat_natCast]
    rw [bytesI_drop q hx]
  · left
    have : k = b.length := by omega
    subst this
    rw [if_neg (by simp)]
    simp only [Int.toNat_natCast]
    rw [List.drop_length]
    rfl
theorem refB {b : List Int} (hb : Byt b) (hl : b.length ≤ 1000000) {c : Nat} (h : c < 4294967296) : loopN (mementoref1_More_L1 b) fuel ((c : Int), 0) = some ((bytesI c b : Nat) : Int) := by
  refine loop_eqF (s := ((c : Int), 0)) (fun s => ∃ (k v : Nat), s = ((v : Int), (k : Int)) ∧ k ≤ b.length ∧ v < 4294967296) (fun s => b.length - s.2.toNat) (fun s => ((bytesI s.1.toNat (b.drop s.2.toNat) : Nat) : Int)) ⟨0, c, rfl, by omega, h⟩ (by simp; omega) ?_
  rintro _ ⟨k, v, rfl, hk, hv⟩
  simp only [mementoref1_More_L1]
  by_cases q : k < b.length
  · right
    obtain ⟨x, hx, hx2⟩ := byt_at hb q
    have ha : v &&& 255 < 4294967296 := Nat.lt_of_le_of_lt Nat.and_le_left hv
    have e1 : Go.bits .and .u32 (v : Int) 255 = ((v &&& 255 : Nat) : Int) := and32 v 255 hv (by omega)
    have e2 : shrI (v : Int) 8 = ((v / 256 : Nat) : Int) := by unfold shrI; omega
    rw [if_pos (by simp; omega), idx_at q, Option.bind_some, hx, wrap32b hx2, e1, xor32 _ x ha (by omega), ref8 (xor_lt32 ha (by omega)), Option.bind_some, e2, xor32 _ _ (bitsN_lt (xor_lt32 ha (by omega))) (by omega), ← row_step, next3 (by omega)]
    refine ⟨_, rfl, ⟨k + 1, _, rfl, q, bitsN_lt (xor_lt32 hv (by omega))⟩, by simp only [Int.toNat_natCast]; omega, ?_⟩
    simp only [Int.toNat_natCast]
    rw [bytesI_drop q hx]
  · left
    have : k = b.length := by omega
    subst this
    rw [if_neg (by simp)]
    simp only [Int.toNat_natCast]
    rw [List.drop_length]
    rfl

theorem not32 {c : Nat} (h : c < 4294967296) : ∃ m : Nat, notI .u32 (c : Int) = (m : Int) ∧ m < 4294967296 := ⟨4294967295 ^^^ c, xor32 4294967295 c (by decide) h, xor_lt32 (by decide) h⟩

def crcV (b : List Int) : Int := (crc_Sum [b]).getD 0
theorem sums11 {b : List Int} (hb : Byt b) (hl : b.length ≤ 1000000) : ∃ v : Nat, v < 4294967296 ∧ crc_Sum [b] = some (v : Int) ∧ mementoref1_Sum b = some (v : Int) := by
  obtain ⟨m, hm, hm2⟩ := not32 (c := 0) (by omega)
  rw [show ((0 : Nat) : Int) = 0 from rfl] at hm
  have hB := bytesI_lt hb hm2
  obtain ⟨v, hv, hv2⟩ := not32 hB
  have c0 : crc_More 0 b = some (v : Int) := by unfold crc_More; rw [hm, codeB hb hl hm2, Option.bind_some, hv]
  have r0 : mementoref1_More 0 b = some (v : Int) := by unfold mementoref1_More; rw [hm, refB hb hl hm2, Option.bind_some, hv]
  refine ⟨v, hv2, ?_, by unfold mementoref1_Sum; rw [r0]; rfl⟩
  unfold crc_Sum
  have s1 : crc_Sum_L1 [b] (0, 0) = some (.go ((v : Int), 1)) := by
    simp only [crc_Sum_L1]
    have i0 : idx [b] 0 = some b := rfl
    rw [if_pos (by simp), i0, Option.bind_some, c0, Option.bind_some, wrap64 (by omega) (by omega)]
    rfl
  have s2 : crc_Sum_L1 [b] ((v : Int), 1) = some (.ret (v : Int)) := by
    simp only [crc_Sum_L1]
    rw [if_neg (by simp)]
    rfl
  have e : loopN (crc_Sum_L1 [b]) fuel (0, 0) = some (v : Int) := by
    have : fuel = 4611686018427387902 + 1 + 1 := rfl
    rw [this]
    simp only [loopN, s1, s2]
  rw [e]
  rfl
theorem sum_eq {b : List Int} (hb : Byt b) (hl : b.length ≤ 1000000) : crc_Sum [b] = some (crcV b) ∧ mementoref1_Sum b = some (crcV b) := by
  obtain ⟨v, _, h1, h2⟩ := sums11 hb hl
  have : crcV b = (v : Int) := by unfold crcV; rw [h1]; rfl
  rw [this]
  exact ⟨h1, h2⟩
def four (c : Int) : List Int := (crc_Four c).getD []
theorem four_eq (c : Int) : crc_Four c = some (four c) ∧ mementoref1_Four c = some (four c) := ⟨rfl, rfl⟩
theorem four_len (c : Int) : (four c).length = 4 := rfl
theorem four_byt (c : Int) : Byt (four c) := fun x hx => by
  have w : ∀ n : Int, 0 ≤ IntKind.wrap .u8 n ∧ IntKind.wrap .u8 n < 256 := fun n => by rw [IntKind.wrap_u8]; omega
  simp only [four, crc_Four, Option.getD_some, List.mem_cons, List.not_mem_nil, or_false] at hx
  rcases hx with rfl | rfl | rfl | rfl <;> exact w _
def sealL (b : List Int) : List Int := b ++ four (crcV b)
theorem sealL_len (b : List Int) : (sealL b).length = b.length + 4 := by simp [sealL, four_len]
theorem Byt.app {a b : List Int} (ha : Byt a) (hb : Byt b) : Byt (a ++ b) := fun x h => (List.mem_append.1 h).elim (ha x) (hb x)
theorem Byt.take {a : List Int} (ha : Byt a) (n : Nat) : Byt (a.take n) := fun x h => ha x (List.mem_of_mem_take h)
theorem Byt.drop {a : List Int} (ha : Byt a) (n : Nat) : Byt (a.drop n) := fun x h => ha x (List.mem_of_mem_drop h)
theorem sealL_byt {b : List Int} (hb : Byt b) : Byt (sealL b) := hb.app (four_byt _)
theorem seal_eq {b : List Int} (hb : Byt b) (hl : b.length ≤ 100000) : crc_Seal b = some (sealL b) ∧ mementoref1_Seal b = some (sealL b) := by
  obtain ⟨s1, s2⟩ := sum_eq hb (by omega)
  refine ⟨?_, ?_⟩
  · unfold crc_Seal
    rw [app_of (by simp; omega) (by simp; omega), Option.bind_some, s1, Option.bind_some, (four_eq _).1, Option.bind_some, List.nil_append, app_of (by rw [four_len]; omega) (by rw [four_len]; omega)]
    rfl
  · unfold mementoref1_Seal
    rw [app_of (by simp; omega) (by simp; omega), Option.bind_some, s2, Option.bind_some, (four_eq _).2, Option.bind_some, List.nil_append, app_of (by rw [four_len]; omega) (by rw [four_len]; omega)]
    rfl

/-- Sealed bytes, opened; or not. -/
def openL (b : List Int) : List Int × Bool := if strOf (b.drop (b.length - 4)) == strOf (four (crcV (b.take (b.length - 4)))) then (b.take (b.length - 4), true) else ([], false)
theorem open_eq {b : List Int} (hb : Byt b) (h4 : 4 ≤ b.length) (hl : b.length ≤ 100000) : crc_Open b = some (openL b) ∧ mementoref1_Open b = some (openL b) := by
  obtain ⟨s1, s2⟩ := sum_eq (hb.take (b.length - 4)) (by rw [List.length_take]; omega)
  have e : IntKind.wrap .i64 ((b.length : Int) - 4) = ((b.length - 4 : Nat) : Int) := by rw [wrap64 (by omega) (by omega)]; omega
  have z0 : ((0 : Nat) : Int) = 0 := rfl
  have x1 : slc b ((b.length - 4 : Nat) : Int) (b.length : Int) = some (b.drop (b.length - 4)) := by rw [slc_nat _ (by omega) (by omega), List.take_length]
  have x2 : slc b 0 ((b.length - 4 : Nat) : Int) = some (b.take (b.length - 4)) := by rw [← z0, slc_nat _ (by omega) (by omega), List.drop_zero]
  have x3 : app 1 [] (b.take (b.length - 4)) = some (b.take (b.length - 4)) := by rw [app_of (by simp; omega) (by simp; omega)]; rfl
  refine ⟨?_, ?_⟩
  · unfold crc_Open openL bytes_Equal
    rw [e, if_neg (by simp), x1, Option.bind_some, x2, Option.bind_some, s1, Option.bind_some, (four_eq _).1, Option.bind_some, Option.bind_some, Option.bind_some]
    cases strOf (b.drop (b.length - 4)) == strOf (four (crcV (b.take (b.length - 4)))) with
    | true => simp [x3]
    | false => simp
  · unfold mementoref1_Open openL
    rw [e, if_neg (by simp), x2, Option.bind_some, s2, Option.bind_some, (four_eq _).2, Option.bind_some, x1, Option.bind_some, Option.bind_some]
    by_cases q : strOf (b.drop (b.length - 4)) = strOf (four (crcV (b.take (b.length - 4))))
    · have e1 : (strOf (four (crcV (b.take (b.length - 4)))) != strOf (b.drop (b.length - 4))) = false := by rw [q]; simp
      have e2 : (strOf (b.drop (b.length - 4)) == strOf (four (crcV (b.take (b.length - 4))))) = true := by rw [q]; simp
      rw [e1, e2]
      simp
    · have e1 : (strOf (four (crcV (b.take (b.length - 4)))) != strOf (b.drop (b.length - 4))) = true := by simpa using fun h => q h.symm
      have e2 : (strOf (b.drop (b.length - 4)) == strOf (four (crcV (b.take (b.length - 4))))) = false := by simpa using q
      rw [e1, e2]
      simp
end Go.Proofs.Yteclchefihcjkaa.Am
