/- Sums: what is turned within 32 bits shows. -/
import Derived.Test.YtjckcocakjaaeaaL1
namespace Go.Proofs.Ytjckcocakjaaeaa.Am
open Go

/-- Bytes as one number, the first lowest. -/
def numB : List UInt8 → Nat
  | [] => 0
  | x :: l => x.toNat + 256 * numB l

theorem numB_cons (x : UInt8) (l : List UInt8) : numB (x :: l) = x.toNat ^^^ (2 ^ 8 * numB l) := by
  have hx := x.toNat_lt
  have h := split8 (x.toNat + 256 * numB l)
  rw [show (x.toNat + 256 * numB l) % 256 = x.toNat by omega, show (x.toNat + 256 * numB l) / 256 = numB l by omega] at h
  exact h

theorem bitsN_add (m n c : Nat) : bitsN (m + n) c = bitsN n (bitsN m c) := by
  induction m generalizing c with
  | zero => rw [Nat.zero_add]; rfl
  | succ m ih => rw [show m + 1 + n = (m + n) + 1 by omega]; simp only [bitsN]; exact ih _

theorem bytesN_num (c : Nat) (l : List UInt8) : bytesN c l = bitsN (8 * l.length) (c ^^^ numB l) := by
  induction l generalizing c with
  | nil => simp [bytesN, numB, bitsN]
  | cons x l ih =>
    rw [numB_cons, List.length_cons, show 8 * (l.length + 1) = 8 + 8 * l.length by omega, bitsN_add, ← Nat.xor_assoc, bitsN_xor, bitsN_pow, ← ih]
    rfl

theorem numB_inj : ∀ {a b : List UInt8}, a.length = b.length → numB a = numB b → a = b
  | [], [], _, _ => rfl
  | x :: a, y :: b, hl, h => by
    have hx := x.toNat_lt
    have hy := y.toNat_lt
    simp only [numB] at h
    have h1 : x.toNat = y.toNat := by omega
    have h2 : numB a = numB b := by omega
    rw [UInt8.toNat_inj.1 h1, numB_inj (by simpa using hl) h2]
  | [], _ :: _, hl, _ => by simp at hl
  | _ :: _, [], hl, _ => by simp at hl

theorem two_xor (a b n : Nat) : 2 ^ n * (a ^^^ b) = (2 ^ n * a) ^^^ (2 ^ n * b) := by
  apply Nat.eq_of_testBit_eq; intro i
  rw [Nat.testBit_xor, Nat.testBit_two_pow_mul, Nat.testBit_two_pow_mul, Nat.testBit_two_pow_mul, Nat.testBit_xor]
  by_cases h : n ≤ i <;> simp [h]

theorem numB_set : ∀ {l : List UInt8} {k : Nat} (h : k < l.length) (y : UInt8), numB (l.set k (l[k] ^^^ y)) = numB l ^^^ (2 ^ (8 * k) * y.toNat)
  | [], k, h, _ => by simp at h
  | x :: l, 0, _, y => by
    simp only [List.set_cons_zero, List.getElem_cons_zero, Nat.mul_zero, Nat.pow_zero, Nat.one_mul]
    rw [numB_cons, numB_cons, UInt8.toNat_xor, Nat.xor_assoc, Nat.xor_assoc, Nat.xor_comm y.toNat]
  | x :: l, k + 1, h, y => by
    have hk : k < l.length := by simpa using h
    simp only [List.set_cons_succ, List.getElem_cons_succ]
    rw [numB_cons, numB_cons, numB_set hk y, two_xor, Nat.xor_assoc]
    congr 2
    rw [show 8 * (k + 1) = 8 + 8 * k by omega, Nat.pow_add, Nat.mul_assoc]

theorem bitN_zero {c : Nat} (h : c < 4294967296) (h0 : bitN c = 0) : c = 0 := by
  unfold bitN at h0
  by_cases hc : c % 2 = 1
  · rw [if_pos hc] at h0
    have h1 : c / 2 = 2197175160 := by
      have := congrArg (· ^^^ 2197175160) h0
      simp only [Nat.xor_assoc, Nat.xor_self, Nat.xor_zero, Nat.zero_xor] at this
      exact this
    omega
  · rw [if_neg hc, Nat.xor_zero] at h0
    omega
theorem bitsN_zero {n c : Nat} (h : c < 4294967296) (h0 : bitsN n c = 0) : c = 0 := by
  induction n generalizing c with
  | zero => exact h0
  | succ n ih => exact bitN_zero h (ih (bitN_lt h) h0)

theorem xor_eq_zero {a b : Nat} (h : a ^^^ b = 0) : a = b := by
  have := congrArg (· ^^^ b) h
  simpa [Nat.xor_assoc] using this

theorem fourV_inj {a b : Nat} (ha : a < 4294967296) (hb : b < 4294967296) (h : fourV a = fourV b) : a = b := by
  unfold fourV at h
  simp only [Int.toNat_natCast, List.cons.injEq, and_true] at h
  obtain ⟨h0, h1, h2, h3⟩ := h
  have e : ∀ m n : Nat, UInt8.ofNat (m % 256) = UInt8.ofNat (n % 256) → m % 256 = n % 256 := fun m n hm => by
    have := congrArg UInt8.toNat hm
    rw [UInt8.toNat_ofNat', UInt8.toNat_ofNat'] at this
    omega
  have e0 := e _ _ h0
  have e1 := e _ _ h1
  have e2 := e _ _ h2
  have e3 := e _ _ h3
  omega

/-- What was turned within 32 bits, ahead of the sum, shows. -/
theorem burst_law {b bd : List UInt8} {s x i : Nat} (hl : bd.length = b.length) (hn : numB bd = numB b ^^^ (2 ^ s * (x % 2 ^ i))) (hi : i ≤ 32) (hs : s ≤ 8 * b.length) :
    (openV (bd ++ fourV (sumV [b]))).2 = decide (x % 2 ^ i = 0) := by
  have h4 : (bd ++ fourV (sumV [b])).length - 4 = bd.length := by rw [List.length_append, fourV_len]; omega
  have h4' : 4 ≤ (bd ++ fourV (sumV [b])).length := by rw [List.length_append, fourV_len]; omega
  unfold openV
  rw [h4, List.take_left, List.drop_left]
  have hw : x % 2 ^ i < 4294967296 := Nat.lt_of_lt_of_le (Nat.mod_lt _ (Nat.two_pow_pos i)) (by
    have := Nat.pow_le_pow_right (show 0 < 2 by omega) hi; simpa using this)
  have key : fourV (sumV [b]) = fourV (sumV [bd]) ↔ x % 2 ^ i = 0 := by
    constructor
    · intro h
      rw [sumV_nat, sumV_nat] at h
      have h1 := fourV_inj (sumN_lt _) (sumN_lt _) h
      have e : ∀ l : List UInt8, sumN [l] = maskN ^^^ bytesN (maskN ^^^ 0) l := fun l => rfl
      rw [e, e] at h1
      have h2 : bytesN (maskN ^^^ 0) b = bytesN (maskN ^^^ 0) bd := by
        have := congrArg (maskN ^^^ ·) h1
        simpa only [xor_twice] using this
      rw [bytesN_num, bytesN_num, hl, hn, ← Nat.xor_assoc, bitsN_xor (8 * b.length) (maskN ^^^ 0 ^^^ numB b)] at h2
      have h3 : bitsN (8 * b.length) (2 ^ s * (x % 2 ^ i)) = 0 := by
        have := congrArg (bitsN (8 * b.length) (maskN ^^^ 0 ^^^ numB b) ^^^ ·) h2
        rw [Nat.xor_self, xor_twice] at this
        exact this.symm
      rw [show 8 * b.length = s + (8 * b.length - s) by omega, bitsN_add, bitsN_pow] at h3
      exact bitsN_zero hw h3
    · intro h
      rw [h, Nat.mul_zero, Nat.xor_zero] at hn
      rw [numB_inj hl hn]
  by_cases h : x % 2 ^ i = 0
  · rw [if_pos ⟨h4', key.2 h⟩, decide_eq_true h]
  · rw [if_neg (fun hx => h (key.1 hx.2)), decide_eq_false h]

theorem testV {x i : Nat} (hx : x < 4294967296) : (Go.bits .and .u32 ((x : Int) / 2 ^ i) 1 = 1) ↔ x / 2 ^ i % 2 = 1 := by
  have e : ((x : Int) / 2 ^ i) = ((x / 2 ^ i : Nat) : Int) := by
    rw [Int.natCast_ediv]; simp
  have h1 : x / 2 ^ i < 4294967296 := Nat.lt_of_le_of_lt (Nat.div_le_self _ _) hx
  rw [e]
  have := and32 (x / 2 ^ i) 1 h1 (by omega)
  rw [Nat.and_one_is_mod] at this
  rw [show (1 : Int) = ((1 : Nat) : Int) from rfl, this]
  omega

theorem mod_succ (x i : Nat) : x % 2 ^ (i + 1) = if x / 2 ^ i % 2 = 1 then (x % 2 ^ i) ^^^ 2 ^ i else x % 2 ^ i := by
  apply Nat.eq_of_testBit_eq; intro j
  have hb : (x / 2 ^ i % 2 = 1) ↔ x.testBit i = true := by
    rw [Nat.testBit_eq_decide_div_mod_eq]; simp
  rw [Nat.testBit_mod_two_pow]
  by_cases h : x / 2 ^ i % 2 = 1
  · rw [if_pos h, Nat.testBit_xor, Nat.testBit_mod_two_pow, Nat.testBit_two_pow]
    have hx := hb.1 h
    by_cases hj : j = i
    · subst hj; simp [hx]
    · by_cases h2 : j < i
      · simp [h2, show j < i + 1 by omega, Ne.symm hj]
      · simp [h2, show ¬ j < i + 1 by omega, Ne.symm hj]
  · rw [if_neg h, Nat.testBit_mod_two_pow]
    have hx : x.testBit i = false := by
      cases hc : x.testBit i with
      | false => rfl
      | true => exact absurd (hb.2 hc) h
    by_cases hj : j = i
    · subst hj; simp [hx]
    · by_cases h2 : j < i
      · simp [h2, show j < i + 1 by omega]
      · simp [h2, show ¬ j < i + 1 by omega]

theorem burst_step {b bd : List UInt8} {s x i : Nat} (hl : bd.length = b.length) (hn : numB bd = numB b ^^^ (2 ^ s * (x % 2 ^ i))) (hx : x / 2 ^ i % 2 = 1) (hk : (s + i) / 8 < bd.length) :
    (bd.set ((s + i) / 8) (bd[(s + i) / 8] ^^^ UInt8.ofNat (2 ^ ((s + i) % 8)))).length = b.length ∧
    numB (bd.set ((s + i) / 8) (bd[(s + i) / 8] ^^^ UInt8.ofNat (2 ^ ((s + i) % 8)))) = numB b ^^^ (2 ^ s * (x % 2 ^ (i + 1))) ∧ x % 2 ^ (i + 1) ≠ 0 := by
  refine ⟨by rw [List.length_set]; exact hl, ?_, ?_⟩
  · rw [numB_set hk, hn, mod_succ, if_pos hx, two_xor, ← Nat.xor_assoc]
    congr 1
    have hlt : 2 ^ ((s + i) % 8) < 256 := by
      have := Nat.pow_lt_pow_right (show 1 < 2 by omega) (Nat.mod_lt (s + i) (show 0 < 8 by omega)); simpa using this
    rw [UInt8.toNat_ofNat', Nat.mod_eq_of_lt (show 2 ^ ((s + i) % 8) < 2 ^ 8 from hlt), ← Nat.pow_add, ← Nat.pow_add]
    congr 1; omega
  · rw [mod_succ, if_pos hx]
    intro h
    have h1 := xor_eq_zero h
    have h2 := Nat.mod_lt x (Nat.two_pow_pos i)
    omega

theorem mod_same {x i : Nat} (h : ¬ x / 2 ^ i % 2 = 1) : x % 2 ^ (i + 1) = x % 2 ^ i := by rw [mod_succ, if_neg h]
theorem shl8 {r : Nat} (h : r < 8) : IntKind.u8.wrap ((2 : Int) ^ r) = ((UInt8.ofNat (2 ^ r)).toNat : Int) := by
  have hlt : 2 ^ r < 256 := by
    have := Nat.pow_lt_pow_right (show 1 < 2 by omega) h; simpa using this
  rw [UInt8.toNat_ofNat', Nat.mod_eq_of_lt (show 2 ^ r < 2 ^ 8 from hlt)]
  have e : ((2 : Int) ^ r) = ((2 ^ r : Nat) : Int) := by simp
  rw [e]
  clear e
  generalize (2 ^ r : Nat) = q at *
  exact wrap8 (by omega) (by omega)

theorem burst_next {b bd : List UInt8} {s x i k : Nat} {y : UInt8} (hl : bd.length = b.length) (hn : numB bd = numB b ^^^ (2 ^ s * (x % 2 ^ i))) (hx : x / 2 ^ i % 2 = 1) (hkq : k = (s + i) / 8) (hy : y = UInt8.ofNat (2 ^ ((s + i) % 8))) (hk : k < bd.length) :
    (bd.set k (bd[k] ^^^ y)).length = b.length ∧ numB (bd.set k (bd[k] ^^^ y)) = numB b ^^^ (2 ^ s * (x % 2 ^ (i + 1))) ∧ x % 2 ^ (i + 1) ≠ 0 := by
  subst hkq hy
  exact burst_step hl hn hx hk

end Go.Proofs.Ytjckcocakjaaeaa.Am
