/- Sums: the plain laws. -/
import Derived.Test.YtjckcocakjaaeaaM15
import Derived.KernelRfl
namespace Go.Proofs.Ytjckcocakjaaeaa.Am
open Go

def notV (c : Int) : Int := Go.bits .xor .u32 4294967295 c
def bitV (c : Int) : Int := Go.bits .xor .u32 (c / 2) (IntKind.u32.wrap (2197175160 * Go.bits .and .u32 c 1))
def bitsV : Nat → Int → Int
  | 0, c => c
  | n + 1, c => bitsV n (bitV c)
def bytesV (c : Int) (l : List UInt8) : Int := l.foldl (fun c x => bitsV 8 (Go.bits .xor .u32 c x.toNat)) c
def moreV (c : Int) (l : List UInt8) : Int := notV (bytesV (notV c) l)
def sumV (ls : List (List UInt8)) : Int := ls.foldl moreV 0
def fourV (c : Int) : List UInt8 := [.ofNat (c.toNat % 256), .ofNat (c.toNat / 256 % 256), .ofNat (c.toNat / 65536 % 256), .ofNat (c.toNat / 16777216 % 256)]

/- the other one's -/
def rbitV (c : Int) : Int := if Go.bits .and .u32 c 1 = 1 then Go.bits .xor .u32 (c / 2) 2197175160 else c / 2
def rbitsV : Nat → Int → Int
  | 0, c => c
  | n + 1, c => rbitsV n (rbitV c)
def rbytesV (c : Int) (l : List UInt8) : Int := l.foldl (fun c x => Go.bits .xor .u32 (rbitsV 8 (Go.bits .xor .u32 (Go.bits .and .u32 c 255) x.toNat)) (c / 256)) c

theorem bytesV_snoc (c : Int) (l : List UInt8) (i : Nat) (h : i < l.length) : bytesV c (l.take (i + 1)) = bitsV 8 (Go.bits .xor .u32 (bytesV c (l.take i)) (l[i]).toNat) := by
  rw [List.take_succ_eq_append_getElem h]
  unfold bytesV
  rw [List.foldl_append]; rfl

theorem rbytesV_snoc (c : Int) (l : List UInt8) (i : Nat) (h : i < l.length) : rbytesV c (l.take (i + 1)) = Go.bits .xor .u32 (rbitsV 8 (Go.bits .xor .u32 (Go.bits .and .u32 (rbytesV c (l.take i)) 255) (l[i]).toNat)) (rbytesV c (l.take i) / 256) := by
  rw [List.take_succ_eq_append_getElem h]
  unfold rbytesV
  rw [List.foldl_append]; rfl

theorem sumV_snoc (l : List (List UInt8)) (i : Nat) (h : i < l.length) : sumV (l.take (i + 1)) = moreV (sumV (l.take i)) l[i] := by
  rw [List.take_succ_eq_append_getElem h]
  unfold sumV
  rw [List.foldl_append]; rfl

/- in natural numbers -/
theorem wrap32_mod (n : Int) : IntKind.u32.wrap n = n % 4294967296 := by simp [IntKind.wrap, IntKind.bits, IntKind.signed]

theorem xor32 (a b : Nat) (ha : a < 4294967296) (hb : b < 4294967296) : Go.bits .xor .u32 (a : Int) (b : Int) = ((a ^^^ b : Nat) : Int) := by
  have hx : a ^^^ b < 2 ^ 32 := Nat.xor_lt_two_pow (by omega) (by omega)
  have h1 : (BitVec.ofInt 32 (a : Int)).toNat = a := by
    rw [BitVec.ofInt_natCast, BitVec.toNat_ofNat]; exact Nat.mod_eq_of_lt (by omega)
  have h2 : (BitVec.ofInt 32 (b : Int)).toNat = b := by
    rw [BitVec.ofInt_natCast, BitVec.toNat_ofNat]; exact Nat.mod_eq_of_lt (by omega)
  show IntKind.u32.wrap ((BitVec.ofInt 32 (a : Int) ^^^ BitVec.ofInt 32 (b : Int)).toNat : Int) = _
  rw [BitVec.toNat_xor, h1, h2, wrap32_mod]
  omega

theorem and32 (a b : Nat) (ha : a < 4294967296) (hb : b < 4294967296) : Go.bits .and .u32 (a : Int) (b : Int) = ((a &&& b : Nat) : Int) := by
  have hx : a &&& b < 2 ^ 32 := Nat.and_lt_two_pow _ (by omega)
  have h1 : (BitVec.ofInt 32 (a : Int)).toNat = a := by
    rw [BitVec.ofInt_natCast, BitVec.toNat_ofNat]; exact Nat.mod_eq_of_lt (by omega)
  have h2 : (BitVec.ofInt 32 (b : Int)).toNat = b := by
    rw [BitVec.ofInt_natCast, BitVec.toNat_ofNat]; exact Nat.mod_eq_of_lt (by omega)
  show IntKind.u32.wrap ((BitVec.ofInt 32 (a : Int) &&& BitVec.ofInt 32 (b : Int)).toNat : Int) = _
  rw [BitVec.toNat_and, h1, h2, wrap32_mod]
  omega

def bitN (c : Nat) : Nat := (c / 2) ^^^ (if c % 2 = 1 then 2197175160 else 0)
def bitsN : Nat → Nat → Nat
  | 0, c => c
  | n + 1, c => bitsN n (bitN c)
def bytesN (c : Nat) (l : List UInt8) : Nat := l.foldl (fun c x => bitsN 8 (c ^^^ x.toNat)) c
def maskN : Nat := 4294967295
def moreM (m c : Nat) (l : List UInt8) : Nat := m ^^^ bytesN (m ^^^ c) l
def moreN (c : Nat) (l : List UInt8) : Nat := moreM maskN c l
def sumN (ls : List (List UInt8)) : Nat := ls.foldl moreN 0

theorem xor_lt32 {a b : Nat} (ha : a < 4294967296) (hb : b < 4294967296) : a ^^^ b < 4294967296 := Nat.xor_lt_two_pow (n := 32) ha hb

theorem bitN_lt {c : Nat} (h : c < 4294967296) : bitN c < 4294967296 := by
  unfold bitN
  exact xor_lt32 (by omega) (by split <;> omega)

theorem bitsN_lt {n c : Nat} (h : c < 4294967296) : bitsN n c < 4294967296 := by
  induction n generalizing c with
  | zero => exact h
  | succ n ih => exact ih (bitN_lt h)

theorem bitV_nat {c : Nat} (h : c < 4294967296) : bitV c = (bitN c : Nat) := by
  unfold bitV bitN
  have h1 : Go.bits .and .u32 (c : Int) 1 = ((c % 2 : Nat) : Int) := by
    have := and32 c 1 h (by omega)
    rw [Nat.and_one_is_mod] at this
    exact this
  rw [h1, show ((c : Int) / 2) = ((c / 2 : Nat) : Int) by omega]
  have h2 : IntKind.u32.wrap (2197175160 * ((c % 2 : Nat) : Int)) = ((if c % 2 = 1 then 2197175160 else 0 : Nat) : Int) := by
    rw [wrap32_mod]
    rcases Nat.mod_two_eq_zero_or_one c with e | e <;> rw [e] <;> rfl
  rw [h2]
  exact xor32 _ _ (by omega) (by split <;> omega)

theorem rbitV_nat {c : Nat} (h : c < 4294967296) : rbitV c = (bitN c : Nat) := by
  unfold rbitV bitN
  have h1 : Go.bits .and .u32 (c : Int) 1 = ((c % 2 : Nat) : Int) := by
    have := and32 c 1 h (by omega)
    rw [Nat.and_one_is_mod] at this
    exact this
  rw [h1, show ((c : Int) / 2) = ((c / 2 : Nat) : Int) by omega]
  rcases Nat.mod_two_eq_zero_or_one c with e | e
  · rw [e]; simp
  · rw [e, if_pos rfl, if_pos (show ((1 : Nat) : Int) = 1 from rfl)]
    exact xor32 _ 2197175160 (by omega) (by omega)

theorem bitsV_nat {n c : Nat} (h : c < 4294967296) : bitsV n c = (bitsN n c : Nat) := by
  induction n generalizing c with
  | zero => rfl
  | succ n ih => simp only [bitsV, bitsN]; rw [bitV_nat h, ih (bitN_lt h)]

theorem rbitsV_nat {n c : Nat} (h : c < 4294967296) : rbitsV n c = (bitsN n c : Nat) := by
  induction n generalizing c with
  | zero => rfl
  | succ n ih => simp only [rbitsV, bitsN]; rw [rbitV_nat h, ih (bitN_lt h)]

theorem u8_lt (x : UInt8) : x.toNat < 4294967296 := by have := x.toNat_lt; omega

theorem bytesN_lt {c : Nat} (l : List UInt8) (h : c < 4294967296) : bytesN c l < 4294967296 := by
  induction l generalizing c with
  | nil => exact h
  | cons x l ih => exact ih (bitsN_lt (xor_lt32 h (u8_lt x)))

theorem bytesV_nat {c : Nat} (l : List UInt8) (h : c < 4294967296) : bytesV c l = (bytesN c l : Nat) := by
  induction l generalizing c with
  | nil => rfl
  | cons x l ih =>
    have h1 := xor_lt32 h (u8_lt x)
    simp only [bytesV, bytesN, List.foldl_cons] at ih ⊢
    rw [xor32 _ _ h (u8_lt x), bitsV_nat h1]
    exact ih (bitsN_lt h1)

theorem notN_lt {c : Nat} (h : c < 4294967296) : maskN ^^^ c < 4294967296 := xor_lt32 (by decide) h
theorem notV_nat {c : Nat} (h : c < 4294967296) : notV c = ((maskN ^^^ c : Nat) : Int) := xor32 maskN c (by decide) h

theorem moreN_lt {c : Nat} (l : List UInt8) (h : c < 4294967296) : moreN c l < 4294967296 := notN_lt (bytesN_lt l (notN_lt h))
theorem moreV_nat {c : Nat} (l : List UInt8) (h : c < 4294967296) : moreV c l = (moreN c l : Nat) := by
  unfold moreV moreN moreM
  rw [notV_nat h, bytesV_nat l (notN_lt h), notV_nat (bytesN_lt l (notN_lt h))]

theorem foldN_lt {c : Nat} (ls : List (List UInt8)) (h : c < 4294967296) : ls.foldl moreN c < 4294967296 := by
  induction ls generalizing c with
  | nil => exact h
  | cons x l ih => exact ih (moreN_lt x h)
theorem foldV_nat {c : Nat} (ls : List (List UInt8)) (h : c < 4294967296) : ls.foldl moreV (c : Int) = (ls.foldl moreN c : Nat) := by
  induction ls generalizing c with
  | nil => rfl
  | cons x l ih => simp only [List.foldl_cons]; rw [moreV_nat x h]; exact ih (moreN_lt x h)
theorem sumN_lt (ls : List (List UInt8)) : sumN ls < 4294967296 := foldN_lt (c := 0) ls (by omega)
theorem sumV_nat (ls : List (List UInt8)) : sumV ls = (sumN ls : Nat) := foldV_nat (c := 0) ls (by omega)

/- a sum hangs on the bytes -/
theorem xor_twice (m c : Nat) : m ^^^ (m ^^^ c) = c := by rw [← Nat.xor_assoc, Nat.xor_self, Nat.zero_xor]
theorem moreM_append (m c : Nat) (a b : List UInt8) : moreM m (moreM m c a) b = moreM m c (a ++ b) := by
  unfold moreM
  rw [xor_twice]
  unfold bytesN
  rw [List.foldl_append]
theorem moreM_nil (m c : Nat) : moreM m c [] = c := xor_twice m c
theorem moreN_append (c : Nat) (a b : List UInt8) : moreN (moreN c a) b = moreN c (a ++ b) := moreM_append maskN c a b
theorem moreN_nil (c : Nat) : moreN c [] = c := moreM_nil maskN c
theorem foldN_flatten (c : Nat) (ls : List (List UInt8)) : ls.foldl moreN c = moreN c ls.flatten := by
  induction ls generalizing c with
  | nil => exact (moreN_nil c).symm
  | cons x l ih => rw [List.foldl_cons, ih, moreN_append]; rfl
theorem sumN_flatten (ls : List (List UInt8)) : sumN ls = moreN 0 ls.flatten := foldN_flatten 0 ls

/- the step is linear -/
theorem bitN_xor (a b : Nat) : bitN (a ^^^ b) = bitN a ^^^ bitN b := by
  unfold bitN
  have h1 : (a ^^^ b) / 2 = a / 2 ^^^ b / 2 := by
    apply Nat.eq_of_testBit_eq; intro i
    simp [Nat.testBit_div_two, Nat.testBit_xor]
  have h2 : (a ^^^ b) % 2 = (a % 2 + b % 2) % 2 := by
    have := @Nat.xor_mod_two_eq_one a b
    omega
  rw [h1, h2]
  rcases Nat.mod_two_eq_zero_or_one a with ea | ea <;> rcases Nat.mod_two_eq_zero_or_one b with eb | eb <;> rw [ea, eb] <;> simp [Nat.xor_assoc]
  · rw [Nat.xor_comm (b / 2), ← Nat.xor_assoc]
  · rw [Nat.xor_comm (b / 2) 2197175160, ← Nat.xor_assoc 2197175160, Nat.xor_self, Nat.zero_xor]

theorem bitsN_xor (n a b : Nat) : bitsN n (a ^^^ b) = bitsN n a ^^^ bitsN n b := by
  induction n generalizing a b with
  | zero => rfl
  | succ n ih => simp only [bitsN]; rw [bitN_xor, ih]

theorem bitN_even (x : Nat) : bitN (2 * x) = x := by unfold bitN; simp
theorem bitsN_pow (n x : Nat) : bitsN n (2 ^ n * x) = x := by
  induction n generalizing x with
  | zero => simp [bitsN]
  | succ n ih =>
    simp only [bitsN]
    rw [show 2 ^ (n + 1) * x = 2 * (2 ^ n * x) by rw [Nat.pow_succ]; rw [Nat.mul_comm (2 ^ n) 2, Nat.mul_assoc], bitN_even, ih]

theorem split8 (c : Nat) : c = (c % 256) ^^^ (2 ^ 8 * (c / 256)) := by
  apply Nat.eq_of_testBit_eq; intro i
  rw [Nat.testBit_xor, show (256 : Nat) = 2 ^ 8 by rfl, Nat.testBit_mod_two_pow, Nat.testBit_two_pow_mul, Nat.testBit_div_two_pow]
  by_cases h : i < 8
  · simp [h, show ¬ 8 ≤ i by omega]
  · simp [h, show 8 ≤ i by omega, Nat.sub_add_cancel]

theorem row_step (c x : Nat) : bitsN 8 (c ^^^ x) = bitsN 8 ((c &&& 255) ^^^ x) ^^^ (c / 256) := by
  rw [show (c &&& 255) = c % 256 from Nat.and_two_pow_sub_one_eq_mod c 8]
  conv => lhs; rw [split8 c]
  rw [Nat.xor_assoc, Nat.xor_comm (2 ^ 8 * (c / 256)) x, ← Nat.xor_assoc, bitsN_xor, bitsN_pow]

theorem rbytesV_nat {c : Nat} (l : List UInt8) (h : c < 4294967296) : rbytesV c l = (bytesN c l : Nat) := by
  induction l generalizing c with
  | nil => rfl
  | cons x l ih =>
    have h1 := xor_lt32 h (u8_lt x)
    have h2 : c &&& 255 < 4294967296 := Nat.lt_of_le_of_lt Nat.and_le_left h
    simp only [rbytesV, bytesN, List.foldl_cons] at ih ⊢
    have e : Go.bits .and .u32 (c : Int) 255 = ((c &&& 255 : Nat) : Int) := and32 c 255 h (by omega)
    rw [e, xor32 _ _ h2 (u8_lt x), rbitsV_nat (xor_lt32 h2 (u8_lt x)), show ((c : Int) / 256) = ((c / 256 : Nat) : Int) by omega, xor32 _ _ (bitsN_lt (xor_lt32 h2 (u8_lt x))) (by omega), ← row_step]
    exact ih (bitsN_lt h1)

theorem byteV {c : Int} (h : 0 ≤ c) (d : Nat) : IntKind.u8.wrap (c / (d : Int)) = ((UInt8.ofNat (c.toNat / d % 256)).toNat : Int) := by
  have e : IntKind.u8.wrap (c / (d : Int)) = (c / (d : Int)) % 256 := by simp [IntKind.wrap, IntKind.bits, IntKind.signed]
  obtain ⟨n, rfl⟩ := Int.eq_ofNat_of_zero_le h
  rw [e, UInt8.toNat_ofNat', Int.toNat_natCast]
  simp only [Int.natCast_emod, Nat.mod_mod]
  rw [Int.natCast_ediv]
  rfl

theorem fourV_eq {c : Int} (h : 0 ≤ c) : (fourV c).map encB = [[.sc (.int .u8 (IntKind.u8.wrap c))], [.sc (.int .u8 (IntKind.u8.wrap (c / 256)))], [.sc (.int .u8 (IntKind.u8.wrap (c / 65536)))], [.sc (.int .u8 (IntKind.u8.wrap (c / 16777216)))]] := by
  have h0 := byteV h 1
  have h1 := byteV h 256
  have h2 := byteV h 65536
  have h3 := byteV h 16777216
  simp only [Nat.div_one] at h0
  rw [show c / ((1 : Nat) : Int) = c by omega] at h0
  simp only [fourV, encB, List.map_cons, List.map_nil, h0]
  rw [show c / 256 = c / ((256 : Nat) : Int) from rfl, show c / 65536 = c / ((65536 : Nat) : Int) from rfl, show c / 16777216 = c / ((16777216 : Nat) : Int) from rfl, h1, h2, h3]

theorem rMoreV_sum (l : List UInt8) : notV (rbytesV (notV 0) l) = sumV [l] := by
  have h0 : notV 0 = ((maskN ^^^ 0 : Nat) : Int) := notV_nat (c := 0) (by omega)
  have hm : maskN ^^^ 0 < 4294967296 := notN_lt (by omega)
  have e : sumV [l] = moreV 0 l := rfl
  rw [e, moreV, h0, rbytesV_nat l hm, bytesV_nat l hm]

theorem fourV_len (c : Int) : (fourV c).length = 4 := rfl
def sealV (l : List UInt8) : List UInt8 := l ++ fourV (sumV [l])
theorem sealV_eq (l : List UInt8) : (sealV l).map encB = l.map encB ++ (fourV (sumV [l])).map encB := by unfold sealV; rw [List.map_append]

def openV (b : List UInt8) : List UInt8 × Bool := if 4 ≤ b.length ∧ b.drop (b.length - 4) = fourV (sumV [b.take (b.length - 4)]) then (b.take (b.length - 4), true) else ([], false)

theorem openV_sealV (l : List UInt8) : openV (sealV l) = (l, true) := by
  have h4 : (sealV l).length - 4 = l.length := by unfold sealV; rw [List.length_append, fourV_len]; omega
  unfold openV
  rw [h4]
  have ht : (sealV l).take l.length = l := by unfold sealV; exact List.take_left
  have hd : (sealV l).drop l.length = fourV (sumV [l]) := by unfold sealV; exact List.drop_left
  rw [ht, hd, if_pos ⟨by unfold sealV; rw [List.length_append, fourV_len]; omega, rfl⟩]

theorem known_open : openV [97, 98, 99, 100] = ([], false) := by kernel_rfl
theorem known_sum : sumV [[49, 50, 51, 52], [53, 54, 55, 56, 57]] = 3808858755 := by
  rw [sumV_nat]
  have : sumN [[49, 50, 51, 52], [53, 54, 55, 56, 57]] = 3808858755 := by kernel_rfl
  rw [this]; rfl
theorem known_four : fourV 16909060 = [4, 3, 2, 1] := by kernel_rfl

theorem sumV_flat {a b : List (List UInt8)} (h : a.flatten = b.flatten) : sumV a = sumV b := by rw [sumV_nat, sumV_nat, sumN_flatten, sumN_flatten, h]
theorem parts_three {l : List UInt8} {x y : Nat} (h : x ≤ y) : sumV [l.take x, (l.take y).drop x, l.drop y] = sumV [l] := by
  apply sumV_flat
  have e : l.take x = (l.take y).take x := by rw [List.take_take, Nat.min_eq_left h]
  simp only [List.flatten_cons, List.flatten_nil, List.append_nil]
  rw [← List.append_assoc, e, List.take_append_drop, List.take_append_drop]
theorem parts_more {l : List UInt8} {x : Nat} : moreV (sumV [l.take x]) (l.drop x) = sumV [l] := by
  have : moreV (sumV [l.take x]) (l.drop x) = sumV [l.take x, l.drop x] := rfl
  rw [this]
  apply sumV_flat
  simp
theorem parts_nil {l : List UInt8} : sumV [l, [], []] = sumV [l] := by
  apply sumV_flat
  simp

theorem sealV_ne (l : List UInt8) : (sealV l = []) = False := by
  apply eq_false
  intro h
  have := congrArg List.length h
  unfold sealV at this
  rw [List.length_append, fourV_len] at this
  simp at this
theorem sealV_len (l : List UInt8) : (sealV l).length = l.length + 4 := by unfold sealV; rw [List.length_append, fourV_len]

theorem rMoreV_eq {c : Nat} (l : List UInt8) (h : c < 4294967296) : notV (rbytesV (notV (c : Int)) l) = moreV c l := by
  have hm : maskN ^^^ c < 4294967296 := notN_lt h
  rw [moreV, notV_nat h, rbytesV_nat l hm, bytesV_nat l hm]
theorem sumV_app (ls : List (List UInt8)) (b : List UInt8) : sumV (ls ++ [b]) = moreV (sumV ls) b := by
  unfold sumV
  rw [List.foldl_append]; rfl

theorem forall_snoc {α : Type} {p : α → Prop} {ls : List α} {b : α} (h : ∀ y, y ∈ ls → p y) (hb : p b) : ∀ y, y ∈ ls ++ [b] → p y := fun y hy => by
  rcases List.mem_append.1 hy with h1 | h1
  · exact h y h1
  · rw [List.mem_singleton.1 h1]; exact hb

end Go.Proofs.Ytjckcocakjaaeaa.Am
