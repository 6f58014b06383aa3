/- Part 5 of the proof: values, memory, walks or the plain law. -/
import Derived.Test.YtgdbmgnfaefhoaaQ4
import Derived.KernelRfl
namespace Go.Proofs.Ytgdbmgnfaefhoaa.Am
open Go
set_option linter.unusedVariables false
set_option linter.unusedSimpArgs false
set_option maxRecDepth 100000
theorem open_seal (x : List Int) : openL (sealL x) = (x, true) := by
  have h4 := four_len (crcV x)
  have hl := sealL_len x
  unfold openL
  rw [hl, show x.length + 4 - 4 = x.length by omega]
  have e1 : (sealL x).take x.length = x := by unfold sealL; rw [List.take_left]
  have e2 : (sealL x).drop x.length = four (crcV x) := by unfold sealL; rw [List.drop_left]
  rw [e1, e2, if_pos (by simp)]
theorem code_good {s : Api_Stream} (h : Good s) : stream_Read (streamB s) = some (s, 0) := by
  have hsb := streamB_len h
  unfold stream_Read
  rw [if_neg (by simp; omega), (open_eq hsb.2.1 (by omega) (by omega)).1, Option.bind_some, show openL (streamB s) = (bodyB s, true) from open_seal _]
  simp only [Bool.not_true, Bool.false_eq_true, if_false]
  rw [parsed_good h, Option.bind_some]
  simp only
  rw [(put_good h).1, Option.bind_some]
  simp only
  unfold bytes_Equal
  simp
end Go.Proofs.Ytgdbmgnfaefhoaa.Am
namespace Go.Proofs.Ytgdbmgnfaefhoaa.Am
open Go
set_option linter.unusedVariables false
set_option linter.unusedSimpArgs false
set_option maxRecDepth 100000
theorem known21 : mementolaw21_known = some true := by kernel_rfl
theorem some_ok {a0 : List Int} {a1 a2 : Int} (hl : a0.length ≤ 60) (h0 : Byt a0) (h1 : 0 ≤ a1 ∧ a1 < 256) (h2 : 0 ≤ a2 ∧ a2 < 256) : ∃ s, mementolaw21_some a0 a1 a2 = some s ∧ Good s := by
  obtain ⟨v, hv, hi⟩ := volume_ok (l := a0) (by omega) h0
  have hi0 : VInv 30 ⟨v.Id, v.Blocks, v.Size, v.Per, v.Place, v.Total, v.Next, v.Hidden, 0, v.Pins, v.Writes⟩ := ⟨hi.id, hi.blocks, hi.size, hi.next, hi.pins, hi.writes, hi.items⟩
  have hw := hi.writes
  have hB := hi.blocks
  have hS := hi.size
  unfold mementolaw21_some
  rw [hv, Option.bind_some]
  generalize hv0 : Api_Volume.mk v.Id v.Blocks v.Size v.Per v.Place v.Total v.Next v.Hidden 0 v.Pins v.Writes = v0 at hi0
  have hw0 : v0.Writes = v.Writes := by rw [← hv0]
  have hf0 : v0.Floor = 0 := by rw [← hv0]
  have hb0 : v0.Blocks = v.Blocks := by rw [← hv0]
  have hs0 : v0.Size = v.Size := by rw [← hv0]
  unfold mementoref16_Len
  rw [Option.bind_some, hw0]
  obtain ⟨t, ht, et⟩ : ∃ t : Nat, t ≤ v.Writes.length ∧ remI (IntKind.wrap .i64 a2) (IntKind.wrap .i64 ((v.Writes.length : Int) + 1)) = some (t : Int) := by
    rw [wrap64 (n := a2) (by omega) (by omega), wrap64 (by omega) (by omega)]
    unfold remI
    have q1 := Int.tmod_lt_of_pos a2 (show (0 : Int) < (v.Writes.length : Int) + 1 by omega)
    have q2 := Int.tmod_nonneg ((v.Writes.length : Int) + 1) h2.1
    rw [if_neg (by omega)]
    exact ⟨(Int.tmod a2 ((v.Writes.length : Int) + 1)).toNat, by omega, by rw [Int.toNat_of_nonneg q2]⟩
  obtain ⟨f, hf, ef⟩ : ∃ f : Nat, f ≤ t ∧ remI (IntKind.wrap .i64 a1) (IntKind.wrap .i64 ((t : Int) + 1)) = some (f : Int) := by
    rw [wrap64 (n := a1) (by omega) (by omega), wrap64 (by omega) (by omega)]
    unfold remI
    have q1 := Int.tmod_lt_of_pos a1 (show (0 : Int) < (t : Int) + 1 by omega)
    have q2 := Int.tmod_nonneg ((t : Int) + 1) h1.1
    rw [if_neg (by omega)]
    exact ⟨(Int.tmod a1 ((t : Int) + 1)).toNat, by omega, by rw [Int.toNat_of_nonneg q2]⟩
  rw [et, Option.bind_some, ef, Option.bind_some, state_eq hi0 (by omega) hf0 (t := f) (by rw [hw0]; omega), Option.bind_some]
  simp only
  rw [state_eq hi0 (by omega) hf0 (t := t) (by rw [hw0]; omega), Option.bind_some]
  simp only
  have lf := stateL_len v0 f
  have lt := stateL_len v0 t
  have rt := stateL_row hi0 t (by rw [hw0]; omega)
  obtain ⟨B, eB⟩ := Int.eq_ofNat_of_zero_le (show 0 ≤ v.Blocks by omega)
  rw [hb0, eB, Int.toNat_natCast] at lf lt
  generalize stateL v0 f = sf at lf ⊢
  generalize stateL v0 t = st at lt rt ⊢
  obtain ⟨fr, hfr, hfr2⟩ : ∃ fr : Int, (if ((Int.tmod a1 3) == 0) then (some (-1)) else (some (f : Int))) = some fr ∧ ((Int.tmod a1 3 = 0 ∧ fr = -1) ∨ (Int.tmod a1 3 ≠ 0 ∧ fr = (f : Int))) := by
    by_cases c : Int.tmod a1 3 = 0
    · exact ⟨-1, by rw [if_pos (by simpa using c)], .inl ⟨c, rfl⟩⟩
    · exact ⟨f, by rw [if_neg (by simpa using c)], .inr ⟨c, rfl⟩⟩
  rw [hfr, Option.bind_some]
  obtain ⟨l, hlp, q1, q2, q3⟩ := loop_QF (b := mementolaw21_some_L1 a1 v sf st) (s := ((0 : Int), ([] : List Api_Item))) (fun s => ∃ k : Nat, k ≤ B ∧ s.1 = (k : Int) ∧ s.2.Pairwise (fun x y => x.Block < y.Block) ∧ (∀ x ∈ s.2, 0 ≤ x.Block ∧ x.Block < k ∧ (x.Data.length : Int) = v.Size ∧ Byt x.Data) ∧ (Int.tmod a1 3 = 0 → s.2.length = k)) (fun s => B - s.1.toNat)
    (fun l => l.Pairwise (fun x y => x.Block < y.Block) ∧ (∀ x ∈ l, 0 ≤ x.Block ∧ x.Block < B ∧ (x.Data.length : Int) = v.Size ∧ Byt x.Data) ∧ (Int.tmod a1 3 = 0 → l.length = B))
    ⟨0, by omega, rfl, .nil, (fun x hx => by cases hx), fun _ => rfl⟩ (by simp only; omega) (by
    rintro ⟨_, l⟩ ⟨k, hk, rfl, p1, p2, p3⟩
    simp only at p1 p2 p3 ⊢
    simp only [mementolaw21_some_L1]
    rw [eB]
    by_cases c : k < B
    rotate_left
    · left
      have : k = B := by omega
      subst this
      rw [if_neg (by simp)]
      exact ⟨_, rfl, p1, p2, p3⟩
    right
    obtain ⟨b, hb, hb3⟩ : ∃ b, (if ((Int.tmod a1 3) == 0) then (some true) else ((idx sf (k : Int)).bind fun x100 => ((idx st (k : Int)).bind fun x101 => (some ((strOf x100) != (strOf x101)))))) = some b ∧ (Int.tmod a1 3 = 0 → b = true) := by
      by_cases c3 : Int.tmod a1 3 = 0
      · exact ⟨true, by rw [if_pos (by simpa using c3)], fun _ => rfl⟩
      · exact ⟨_, by rw [if_neg (by simpa using c3), idx_at (by omega), Option.bind_some, idx_at (by omega), Option.bind_some], fun h => absurd h c3⟩
    have row := rt _ (List.getElem_mem (show k < st.length by omega))
    have hll : l.length ≤ k := by
      have : ∀ (l : List Api_Item) (lo : Nat), l.Pairwise (fun x y => x.Block < y.Block) → (∀ x ∈ l, (lo : Int) ≤ x.Block ∧ x.Block < k) → l.length + lo ≤ k ∨ l = [] := fun l => by
        induction l with
        | nil => intro lo _ _; exact .inr rfl
        | cons x l ih =>
          intro lo hp hx
          left
          have h0 := hx x (List.mem_cons_self ..)
          obtain ⟨b, hb⟩ := Int.eq_ofNat_of_zero_le (show 0 ≤ x.Block by omega)
          rcases ih (b + 1) (List.Pairwise.of_cons hp) (fun y hy => ⟨by have := List.rel_of_pairwise_cons hp hy; omega, (hx y (List.mem_cons_of_mem _ hy)).2⟩) with h | h
          · simp only [List.length_cons]; omega
          · subst h; simp only [List.length_cons, List.length_nil]; omega
      rcases this l 0 p1 (fun x hx => by have := p2 x hx; omega) with h | h
      · omega
      · subst h; simp
    rw [if_pos (by simpa using c), hb, Option.bind_some, next3 (by omega)]
    cases b
    · rw [if_neg (by simp), Option.bind_some]
      exact ⟨_, rfl, ⟨k + 1, c, rfl, p1, (fun x hx => by have := p2 x hx; exact ⟨this.1, by omega, this.2.2⟩), fun h => by cases hb3 h⟩, by simp only [Int.toNat_natCast]; omega⟩
    · rw [if_pos rfl, idx_at (by omega), Option.bind_some, app_of (by simp only [List.length_cons, List.length_nil]; omega) (by simp only [List.length_cons, List.length_nil]; omega), Option.bind_some, Option.bind_some]
      refine ⟨_, rfl, ⟨k + 1, c, rfl, ?_, (fun x hx => ?_), fun h => by have := p3 h; simp only [List.length_append, List.length_cons, List.length_nil]; omega⟩, by simp only [Int.toNat_natCast]; omega⟩
      · rw [List.pairwise_append]
        refine ⟨p1, List.pairwise_singleton _ _, fun x hx y hy => ?_⟩
        simp only [List.mem_cons, List.not_mem_nil, or_false] at hy
        subst hy
        exact (p2 x hx).2.1
      · rcases List.mem_append.1 hx with q | q
        · have := p2 x q
          exact ⟨this.1, by omega, this.2.2⟩
        · simp only [List.mem_cons, List.not_mem_nil, or_false] at q
          subst q
          exact ⟨by simp only; omega, by simp only; omega, by rw [← hs0]; exact row.1, row.2⟩)
  rw [hlp, Option.bind_some]
  refine ⟨_, rfl, ⟨?_, fun k hk => ?_⟩, fun x hx => (q2 x hx).2.2.2⟩
  · unfold hdOk
    simp only
    refine ⟨by omega, by omega, by omega, by omega, by omega, by omega, fun h => ?_⟩
    rcases hfr2 with ⟨c, _⟩ | ⟨_, c⟩
    · rw [q3 c, eB]
    · omega
  · have hm := q2 _ (List.getElem_mem hk)
    exact ⟨hm.1, by simp only; rw [eB]; exact hm.2.1, fun h0 => List.pairwise_iff_getElem.1 q1 (k - 1) k (by simp only at hk; omega) hk (by omega), hm.2.2.1⟩
theorem xor8s (a b : Int) : 0 ≤ Go.bits .xor .u8 a b ∧ Go.bits .xor .u8 a b < 256 := by
  unfold Go.bits
  rw [IntKind.wrap_u8]
  omega
theorem set_byt {l : List Int} (h : Byt l) {k : Nat} {x : Int} (hx : 0 ≤ x ∧ x < 256) : Byt (l.set k x) := fun y hy => by
  rcases List.mem_or_eq_of_mem_set hy with q | q
  · exact h y q
  · rw [q]; exact hx
theorem rem_ok {a : Int} (h : 0 ≤ a ∧ a < 65536) {n : Nat} (hn : 0 < n) : ∃ k : Nat, k < n ∧ remI (IntKind.wrap .i64 a) (n : Int) = some (k : Int) := by
  rw [wrap64 (by omega) (by omega)]
  unfold remI
  have q1 := Int.tmod_lt_of_pos a (show (0 : Int) < n by omega)
  have q2 := Int.tmod_nonneg (n : Int) h.1
  rw [if_neg (by omega)]
  exact ⟨(Int.tmod a n).toNat, by omega, by rw [Int.toNat_of_nonneg q2]⟩
theorem body5 (s : Api_Stream) : 5 ≤ (bodyB s).length := by rw [bodyB_eq]; simp [magicB]
end Go.Proofs.Ytgdbmgnfaefhoaa.Am
namespace Go.Proofs.Ytgdbmgnfaefhoaa.Am
open Go
set_option linter.unusedVariables false
set_option linter.unusedSimpArgs false
set_option maxRecDepth 100000
theorem byt8 {l : List Int} (h : ∀ x ∈ l, Ik .u8 x) : Byt l := fun x hx => (h x hx).u8
end Go.Proofs.Ytgdbmgnfaefhoaa.Am
namespace Go.Proofs.Ytgdbmgnfaefhoaa.Am
open Go
set_option linter.unusedVariables false
set_option linter.unusedSimpArgs false
set_option maxRecDepth 100000
def numI : List Int → Nat
  | [] => 0
  | x :: l => x.toNat + 256 * numI l
theorem Byt.hd {x : Int} {l : List Int} (h : Byt (x :: l)) : 0 ≤ x ∧ x < 256 := h x (List.mem_cons_self ..)
theorem Byt.tl {x : Int} {l : List Int} (h : Byt (x :: l)) : Byt l := fun y hy => h y (List.mem_cons_of_mem _ hy)
theorem numI_cons {x : Int} {l : List Int} (hx : 0 ≤ x ∧ x < 256) : numI (x :: l) = x.toNat ^^^ (2 ^ 8 * numI l) := by
  have h := split8 (x.toNat + 256 * numI l)
  rw [show (x.toNat + 256 * numI l) % 256 = x.toNat by omega, show (x.toNat + 256 * numI l) / 256 = numI l by omega] at h
  exact h
theorem bitsN_add (m n c : Nat) : bitsN (m + n) c = bitsN n (bitsN m c) := by
  induction m generalizing c with
  | zero => rw [Nat.zero_add]; rfl
  | succ m ih => rw [show m + 1 + n = (m + n) + 1 by omega]; simp only [bitsN]; exact ih _
theorem bytesI_num (c : Nat) (l : List Int) (hl : Byt l) : bytesI c l = bitsN (8 * l.length) (c ^^^ numI l) := by
  induction l generalizing c with
  | nil => simp [bytesI, numI, bitsN]
  | cons x l ih =>
    rw [numI_cons hl.hd, List.length_cons, show 8 * (l.length + 1) = 8 + 8 * l.length by omega, bitsN_add, ← Nat.xor_assoc, bitsN_xor, bitsN_pow, ← ih _ hl.tl]
    rfl
theorem numI_inj : ∀ {a b : List Int}, Byt a → Byt b → a.length = b.length → numI a = numI b → a = b
  | [], [], _, _, _, _ => rfl
  | x :: a, y :: b, ha, hb, hl, h => by
    have hx := ha.hd
    have hy := hb.hd
    simp only [numI] at h
    have h1 : x = y := by omega
    have h2 : numI a = numI b := by omega
    rw [h1, numI_inj ha.tl hb.tl (by simpa using hl) h2]
  | [], _ :: _, _, _, hl, _ => by simp at hl
  | _ :: _, [], _, _, hl, _ => by simp at hl
theorem two_xor (a b n : Nat) : 2 ^ n * (a ^^^ b) = (2 ^ n * a) ^^^ (2 ^ n * b) := by
  apply Nat.eq_of_testBit_eq; intro i
  rw [Nat.testBit_xor, Nat.testBit_two_pow_mul, Nat.testBit_two_pow_mul, Nat.testBit_two_pow_mul, Nat.testBit_xor]
  by_cases h : n ≤ i <;> simp [h]
theorem xor8n (a b : Nat) (ha : a < 256) (hb : b < 256) : Go.bits .xor .u8 (a : Int) (b : Int) = ((a ^^^ b : Nat) : Int) := by
  have hx : a ^^^ b < 2 ^ 8 := Nat.xor_lt_two_pow (by omega) (by omega)
  have h1 : (BitVec.ofInt 8 (a : Int)).toNat = a := by
    rw [BitVec.ofInt_natCast, BitVec.toNat_ofNat]; exact Nat.mod_eq_of_lt (by omega)
  have h2 : (BitVec.ofInt 8 (b : Int)).toNat = b := by
    rw [BitVec.ofInt_natCast, BitVec.toNat_ofNat]; exact Nat.mod_eq_of_lt (by omega)
  show IntKind.u8.wrap ((BitVec.ofInt 8 (a : Int) ^^^ BitVec.ofInt 8 (b : Int)).toNat : Int) = _
  rw [BitVec.toNat_xor, h1, h2, IntKind.wrap_u8]
  omega
theorem xor8t {x : Int} {y : Nat} (hx : 0 ≤ x ∧ x < 256) (hy : y < 256) : (Go.bits .xor .u8 x (y : Int)).toNat = x.toNat ^^^ y := by
  obtain ⟨a, rfl⟩ : ∃ a : Nat, x = (a : Int) := ⟨x.toNat, by omega⟩
  rw [xor8n a y (by omega) hy]; rfl
theorem numI_set : ∀ {l : List Int} {k : Nat} (hl : Byt l) (h : k < l.length) {y : Nat} (hy : y < 256), numI (l.set k (Go.bits .xor .u8 l[k] (y : Int))) = numI l ^^^ (2 ^ (8 * k) * y)
  | [], k, _, h, _, _ => by simp at h
  | x :: l, 0, hl, _, y, hy => by
    simp only [List.set_cons_zero, List.getElem_cons_zero, Nat.mul_zero, Nat.pow_zero, Nat.one_mul]
    rw [numI_cons hl.hd, numI_cons (xor8s _ _), xor8t hl.hd hy, Nat.xor_assoc, Nat.xor_assoc, Nat.xor_comm y]
  | x :: l, k + 1, hl, h, y, hy => by
    have hk : k < l.length := by simpa using h
    simp only [List.set_cons_succ, List.getElem_cons_succ]
    rw [numI_cons hl.hd, numI_cons hl.hd, numI_set hl.tl hk hy, two_xor, Nat.xor_assoc]
    congr 2
    rw [show 8 * (k + 1) = 8 + 8 * k by omega, Nat.pow_add, Nat.mul_assoc]
theorem bitN_zero {c : Nat} (h : c < 4294967296) (h0 : bitN c = 0) : c = 0 := by
  unfold bitN at h0
  by_cases hc : c % 2 = 1
  · rw [if_pos hc] at h0
    have h1 : c / 2 = 2197175160 := by
      have := congrArg (· ^^^ 2197175160) h0
      simp only [Nat.xor_assoc, Nat.xor_self, Nat.xor_zero, Nat.zero_xor] at this
      exact this
    omega
  · rw [if_neg hc, Nat.xor_zero] at h0
    omega
theorem bitsN_zero {n c : Nat} (h : c < 4294967296) (h0 : bitsN n c = 0) : c = 0 := by
  induction n generalizing c with
  | zero => exact h0
  | succ n ih => exact bitN_zero h (ih (bitN_lt h) h0)
theorem xor_twice (m c : Nat) : m ^^^ (m ^^^ c) = c := by rw [← Nat.xor_assoc, Nat.xor_self, Nat.zero_xor]
theorem xor_eq_zero {a b : Nat} (h : a ^^^ b = 0) : a = b := by
  have := congrArg (· ^^^ b) h
  simpa [Nat.xor_assoc] using this
theorem crc_num : ∃ m M : Nat, m < 4294967296 ∧ M < 4294967296 ∧ ∀ b, Byt b → b.length ≤ 1000000 → crcV b = ((M ^^^ bytesI m b : Nat) : Int) := by
  have e : ∀ c : Nat, c < 4294967296 → notI .u32 (c : Int) = ((4294967295 ^^^ c : Nat) : Int) := fun c h => xor32 4294967295 c (by decide) h
  generalize (4294967295 : Nat) = Q at e
  obtain ⟨m, hm, hm2⟩ := not32 (c := 0) (by omega)
  rw [show ((0 : Nat) : Int) = 0 from rfl] at hm
  refine ⟨m, Q % 4294967296, hm2, by omega, fun b hb hl => ?_⟩
  have hB := bytesI_lt hb hm2
  obtain ⟨v, hv, hv2⟩ := not32 hB
  have ev := e _ hB
  rw [hv] at ev
  have c0 : crc_More 0 b = some (v : Int) := by unfold crc_More; rw [hm, codeB hb hl hm2, Option.bind_some, hv]
  have es : crc_Sum [b] = some (v : Int) := by
    unfold crc_Sum
    have s1 : crc_Sum_L1 [b] (0, 0) = some (.go ((v : Int), 1)) := by
      simp only [crc_Sum_L1]
      have i0 : idx [b] 0 = some b := rfl
      rw [if_pos (by simp), i0, Option.bind_some, c0, Option.bind_some, wrap64 (by omega) (by omega)]
      rfl
    have s2 : crc_Sum_L1 [b] ((v : Int), 1) = some (.ret (v : Int)) := by
      simp only [crc_Sum_L1]
      rw [if_neg (by simp)]
      rfl
    have e : loopN (crc_Sum_L1 [b]) fuel (0, 0) = some (v : Int) := by
      have : fuel = 4611686018427387902 + 1 + 1 := rfl
      rw [this]
      simp only [loopN, s1, s2]
    rw [e]
    rfl
  unfold crcV
  rw [es, Option.getD_some, ev]
  congr 1
  have q : (Q ^^^ bytesI m b) < 2 ^ 32 := by
    have : ((Q ^^^ bytesI m b : Nat) : Int) = (v : Int) := ev.symm
    omega
  apply Nat.eq_of_testBit_eq; intro i
  rw [Nat.testBit_xor, Nat.testBit_xor, show (4294967296 : Nat) = 2 ^ 32 from rfl, Nat.testBit_mod_two_pow]
  by_cases hi : i < 32
  · simp [hi]
  · have q1 := Nat.testBit_lt_two_pow (i := i) (Nat.lt_of_lt_of_le q (Nat.pow_le_pow_right (by omega) (by omega : 32 ≤ i)))
    rw [Nat.testBit_xor] at q1
    have q2 := Nat.testBit_lt_two_pow (i := i) (Nat.lt_of_lt_of_le (show bytesI m b < 2 ^ 32 from hB) (Nat.pow_le_pow_right (by omega) (by omega : 32 ≤ i)))
    rw [q2] at q1 ⊢
    simp [hi] at q1 ⊢
    exact q1
theorem four_inj {a b : Nat} (ha : a < 4294967296) (hb : b < 4294967296) (h : four (a : Int) = four (b : Int)) : a = b := by
  simp only [four, crc_Four, Option.getD_some, List.cons.injEq, and_true, IntKind.wrap_u8, shrI] at h
  obtain ⟨h0, h1, h2, h3⟩ := h
  rw [show (2 : Int) ^ 8 = 256 from rfl] at h1
  rw [show (2 : Int) ^ 16 = 65536 from rfl] at h2
  rw [show (2 : Int) ^ 24 = 16777216 from rfl] at h3
  omega
theorem burst_law {b bd : List Int} (hb : Byt b) (hbd : Byt bd) (hlb : b.length ≤ 50000) {s x i : Nat} (hl : bd.length = b.length) (hn : numI bd = numI b ^^^ (2 ^ s * (x % 2 ^ i))) (hi : i ≤ 32) (hs : s ≤ 8 * b.length) :
    (openL (bd ++ four (crcV b))).2 = decide (x % 2 ^ i = 0) := by
  have h4 : (bd ++ four (crcV b)).length - 4 = bd.length := by rw [List.length_append, four_len]; omega
  unfold openL
  rw [h4, List.take_left, List.drop_left]
  have hw : x % 2 ^ i < 4294967296 := Nat.lt_of_lt_of_le (Nat.mod_lt _ (Nat.two_pow_pos i)) (by
    have := Nat.pow_le_pow_right (show 0 < 2 by omega) hi; simpa using this)
  obtain ⟨m, M, hm, hM, hc⟩ := crc_num
  have key : four (crcV b) = four (crcV bd) ↔ x % 2 ^ i = 0 := by
    constructor
    · intro h
      rw [hc b hb (by omega), hc bd hbd (by omega)] at h
      have h1 := four_inj (xor_lt32 hM (bytesI_lt hb hm)) (xor_lt32 hM (bytesI_lt hbd hm)) h
      have h2 : bytesI m b = bytesI m bd := by
        have := congrArg (M ^^^ ·) h1
        simpa only [xor_twice] using this
      rw [bytesI_num _ _ hb, bytesI_num _ _ hbd, hl, hn, ← Nat.xor_assoc, bitsN_xor (8 * b.length) (m ^^^ numI b)] at h2
      have h3 : bitsN (8 * b.length) (2 ^ s * (x % 2 ^ i)) = 0 := by
        have := congrArg (bitsN (8 * b.length) (m ^^^ numI b) ^^^ ·) h2
        rw [Nat.xor_self, xor_twice] at this
        exact this.symm
      rw [show 8 * b.length = s + (8 * b.length - s) by omega, bitsN_add, bitsN_pow] at h3
      exact bitsN_zero hw h3
    · intro h
      rw [h, Nat.mul_zero, Nat.xor_zero] at hn
      rw [numI_inj hbd hb hl hn]
  by_cases h : x % 2 ^ i = 0
  · rw [if_pos (by rw [key.2 h]; simp), decide_eq_true h]
  · rw [if_neg (fun hx => h (key.1 (strOf_inj (four_byt _) (four_byt _) (by simpa using hx)))), decide_eq_false h]
theorem mod_succ (x i : Nat) : x % 2 ^ (i + 1) = if x / 2 ^ i % 2 = 1 then (x % 2 ^ i) ^^^ 2 ^ i else x % 2 ^ i := by
  apply Nat.eq_of_testBit_eq; intro j
  have hb : (x / 2 ^ i % 2 = 1) ↔ x.testBit i = true := by
    rw [Nat.testBit_eq_decide_div_mod_eq]; simp
  rw [Nat.testBit_mod_two_pow]
  by_cases h : x / 2 ^ i % 2 = 1
  · rw [if_pos h, Nat.testBit_xor, Nat.testBit_mod_two_pow, Nat.testBit_two_pow]
    have hx := hb.1 h
    by_cases hj : j = i
    · subst hj; simp [hx]
    · by_cases h2 : j < i
      · simp [h2, show j < i + 1 by omega, Ne.symm hj]
      · simp [h2, show ¬ j < i + 1 by omega, Ne.symm hj]
  · rw [if_neg h, Nat.testBit_mod_two_pow]
    have hx : x.testBit i = false := by
      cases hc : x.testBit i with
      | false => rfl
      | true => exact absurd (hb.2 hc) h
    by_cases hj : j = i
    · subst hj; simp [hx]
    · by_cases h2 : j < i
      · simp [h2, show j < i + 1 by omega]
      · simp [h2, show ¬ j < i + 1 by omega]
theorem testV {x i : Nat} (hx : x < 4294967296) : (Go.bits .and .u32 (shrI (x : Int) i) 1 = 1) ↔ x / 2 ^ i % 2 = 1 := by
  have e : shrI (x : Int) i = ((x / 2 ^ i : Nat) : Int) := by
    unfold shrI; rw [Int.natCast_ediv]; simp
  have h1 : x / 2 ^ i < 4294967296 := Nat.lt_of_le_of_lt (Nat.div_le_self _ _) hx
  rw [e]
  have := and32 (x / 2 ^ i) 1 h1 (by omega)
  rw [Nat.and_one_is_mod] at this
  rw [show (1 : Int) = ((1 : Nat) : Int) from rfl, this]
  omega
theorem shl8 {r : Nat} (h : r < 8) : shlI .u8 1 r = ((2 ^ r : Nat) : Int) ∧ 2 ^ r < 256 := by
  have hlt : 2 ^ r < 256 := by
    have := Nat.pow_lt_pow_right (show 1 < 2 by omega) h; simpa using this
  refine ⟨?_, hlt⟩
  unfold shlI
  have e : ((2 : Int) ^ r) = ((2 ^ r : Nat) : Int) := by simp
  rw [e, Int.one_mul]
  clear e
  generalize (2 ^ r : Nat) = q at *
  exact wrap8 (by omega) (by omega)
theorem burst_next {b bd : List Int} (hbd : Byt bd) {s x i k y : Nat} (hl : bd.length = b.length) (hn : numI bd = numI b ^^^ (2 ^ s * (x % 2 ^ i))) (hx : x / 2 ^ i % 2 = 1) (hkq : k = (s + i) / 8) (hy : y = 2 ^ ((s + i) % 8)) (hy2 : y < 256) (hk : k < bd.length) :
    (bd.set k (Go.bits .xor .u8 bd[k] (y : Int))).length = b.length ∧ numI (bd.set k (Go.bits .xor .u8 bd[k] (y : Int))) = numI b ^^^ (2 ^ s * (x % 2 ^ (i + 1))) ∧ x % 2 ^ (i + 1) ≠ 0 := by
  refine ⟨by rw [List.length_set]; exact hl, ?_, ?_⟩
  · rw [numI_set hbd hk hy2, hn, mod_succ, if_pos hx, two_xor, ← Nat.xor_assoc]
    congr 1
    rw [hkq, hy, ← Nat.pow_add, ← Nat.pow_add]
    congr 1; omega
  · rw [mod_succ, if_pos hx]
    intro h
    have h1 := xor_eq_zero h
    have h2 := Nat.mod_lt x (Nat.two_pow_pos i)
    omega
end Go.Proofs.Ytgdbmgnfaefhoaa.Am
namespace Go.Proofs.Ytgdbmgnfaefhoaa.Am
open Go
set_option linter.unusedVariables false
set_option linter.unusedSimpArgs false
set_option maxRecDepth 100000
theorem cntK {k : IntKind} {i : Nat} (h : i ≤ k.bits) : cnt k (i : Int) = some i := by
  unfold cnt; rw [if_pos (by omega), Int.toNat_natCast, Nat.min_eq_left h]
theorem len8 {n : Nat} (h : n ≤ 60000) : IntKind.wrap .i64 (8 * IntKind.wrap .i64 (((n + 4 : Nat) : Int) - 4)) = ((8 * n : Nat) : Int) := by
  have e : IntKind.wrap .i64 (((n + 4 : Nat) : Int) - 4) = (n : Int) := by rw [wrap64 (by omega) (by omega)]; omega
  rw [e, wrap64 (by omega) (by omega)]; omega
def BuI (body : List Int) (s X : Nat) (p : Bool × List Int) (i : Nat) : Prop :=
  ∃ bd, i ≤ 32 ∧ p.2 = bd ++ four (crcV body) ∧ Byt bd ∧ bd.length = body.length ∧ numI bd = numI body ^^^ (2 ^ s * (X % 2 ^ i)) ∧ p.1 = decide (X % 2 ^ i ≠ 0)
theorem burst_loop {body : List Int} (hb : Byt body) (hl : body.length ≤ 50000) {s X : Nat} (hX : X < 4294967296) (hs : s < 8 * body.length) :
    ∃ p, loopN (mementolaw21_StreamBurst_L1 (X : Int) (sealL body) (s : Int)) fuel (false, 0, sealL body) = some p ∧ ∃ i, BuI body s X p i := by
  refine loop_QF (fun q => ∃ i : Nat, q.2.1 = (i : Int) ∧ BuI body s X (q.1, q.2.2) i) (fun q => 32 - q.2.1.toNat) _ ⟨0, rfl, body, by omega, rfl, hb, rfl, by simp [Nat.mod_one], by simp [Nat.mod_one]⟩ (by simp) ?_
  rintro ⟨tu, t, me⟩ ⟨i, rfl, bd, hi, rfl, hbd, hbl, hn, rfl⟩
  simp only [mementolaw21_StreamBurst_L1]
  have hlen : IntKind.wrap .i64 (8 * IntKind.wrap .i64 (((sealL body).length : Int) - 4)) = ((8 * body.length : Nat) : Int) := by
    rw [sealL_len, len8 (by omega)]
  have hsi : IntKind.wrap .i64 ((s : Int) + (i : Int)) = ((s + i : Nat) : Int) := by rw [wrap64 (by omega) (by omega)]; omega
  rw [hlen, hsi]
  by_cases c : i < 32 ∧ s + i < 8 * body.length
  · obtain ⟨c1, c2⟩ := c
    right
    rw [if_pos (by simpa using (by omega : (i : Int) < 32)), decide_eq_true (by omega), Option.bind_some, if_pos rfl, cntK (k := .u32) (show i ≤ 32 by omega), Option.bind_some, next3 (by omega)]
    by_cases hx : X / 2 ^ i % 2 = 1
    · have hk : (s + i) / 8 < bd.length := by omega
      have e1 : IntKind.wrap .i64 (Int.tdiv ((s + i : Nat) : Int) 8) = (((s + i) / 8 : Nat) : Int) := by
        rw [show Int.tdiv ((s + i : Nat) : Int) 8 = (((s + i) / 8 : Nat) : Int) from rfl, wrap64 (by omega) (by omega)]
      have e2 : Int.tmod ((s + i : Nat) : Int) 8 = (((s + i) % 8 : Nat) : Int) := rfl
      have hr : (s + i) % 8 < 8 := Nat.mod_lt _ (by omega)
      obtain ⟨h8, h8'⟩ := shl8 hr
      obtain ⟨n1, n2, n3⟩ := burst_next hbd hbl hn hx rfl rfl h8' hk
      rw [if_pos (by simpa using (testV hX).2 hx), e1, e2, idx_at (by rw [List.length_append]; omega), Option.bind_some, cntK (k := .u8) (show (s + i) % 8 ≤ 8 by omega), Option.bind_some,
        updL_nat (by rw [List.length_append]; omega), Option.bind_some, Option.bind_some]
      refine ⟨_, rfl, ⟨i + 1, rfl, bd.set ((s + i) / 8) (Go.bits .xor .u8 bd[(s + i) / 8] ((2 ^ ((s + i) % 8) : Nat) : Int)), by omega, ?_, ?_, n1, n2, ?_⟩, by simp only [Int.toNat_natCast]; omega⟩
      · simp only
        rw [List.getElem_append_left hk, List.set_append_left _ _ hk, h8]
      · exact set_byt hbd (xor8s _ _)
      · simp [n3]
    · rw [if_neg (by simpa using fun h => hx ((testV hX).1 h)), Option.bind_some]
      have hm : X % 2 ^ (i + 1) = X % 2 ^ i := by rw [mod_succ, if_neg hx]
      exact ⟨_, rfl, ⟨i + 1, rfl, bd, by omega, rfl, hbd, hbl, by rw [hm]; exact hn, by simp only [hm]⟩, by simp only [Int.toNat_natCast]; omega⟩
  · left
    have e : (if decide ((i : Int) < 32) = true then some (decide (((s + i : Nat) : Int) < ((8 * body.length : Nat) : Int))) else some false) = some false := by
      by_cases c1 : i < 32
      · rw [if_pos (by simpa using (by omega : (i : Int) < 32)), decide_eq_false (by omega)]
      · rw [if_neg (by simpa using (by omega : ¬ (i : Int) < 32))]
    rw [e, Option.bind_some, if_neg (by simp)]
    exact ⟨_, rfl, i, bd, hi, rfl, hbd, hbl, hn, rfl⟩
theorem streamBurst_eq {a0 : List Int} {a1 a2 a3 a4 : Int} (h0 : Byt a0) (h1 : 0 ≤ a1 ∧ a1 < 256) (h2 : 0 ≤ a2 ∧ a2 < 256) (h3 : 0 ≤ a3 ∧ a3 < 65536) (h4 : 0 ≤ a4 ∧ a4 < 4294967296) : mementolaw21_StreamBurst a0 a1 a2 a3 a4 = some true := by
  unfold mementolaw21_StreamBurst
  rw [known21, Option.bind_some, if_neg (by simp)]
  by_cases c0 : (a0.length : Int) > 60
  · rw [if_pos (by simpa using c0)]; rfl
  rw [if_neg (by simpa using c0), Option.bind_some]
  by_cases c1 : a4 = 0
  · rw [if_pos (by simpa using c1)]
  rw [if_neg (by simpa using c1)]
  obtain ⟨s, hs, hg⟩ := some_ok (a0 := a0) (a1 := a1) (a2 := a2) (by omega) h0 h1 h2
  have hb := bodyB_len hg
  have h5 := body5 s
  obtain ⟨X, rfl⟩ : ∃ X : Nat, a4 = (X : Int) := ⟨a4.toNat, by omega⟩
  rw [hs, Option.bind_some, (put_good hg).1, Option.bind_some]
  simp only
  have e8 : IntKind.wrap .i64 (8 * IntKind.wrap .i64 (((streamB s).length : Int) - 4)) = ((8 * (bodyB s).length : Nat) : Int) := by
    rw [(streamB_len hg).2.2, len8 (by omega)]
  obtain ⟨k, hk, ek⟩ := rem_ok h3 (n := 8 * (bodyB s).length) (by omega)
  obtain ⟨⟨tu, me⟩, hlp, i, bd, hi, hme, hbd, hbl, hn, htu⟩ := burst_loop hb.2 (by omega) (X := X) (by omega) hk
  simp only at hme htu
  rw [if_neg (by simp), e8, decide_eq_false (by omega), Option.bind_some, if_neg (by simp), ek, Option.bind_some, show streamB s = sealL (bodyB s) from rfl, hlp, Option.bind_some]
  simp only
  subst hme
  by_cases hx : X % 2 ^ i = 0
  · have : bd = bodyB s := numI_inj hbd hb.2 hbl (by rw [hn, hx, Nat.mul_zero, Nat.xor_zero])
    subst this
    rw [show bodyB s ++ four (crcV (bodyB s)) = streamB s from rfl, code_good hg, Option.bind_some]
    rw [htu, hx]
    rfl
  · have ho := burst_law hb.2 hbd (by omega) hbl hn hi (by omega)
    rw [decide_eq_false hx] at ho
    have hby : Byt (bd ++ four (crcV (bodyB s))) := hbd.app (four_byt _)
    have hll : (bd ++ four (crcV (bodyB s))).length = (bodyB s).length + 4 := by rw [List.length_append, four_len]; omega
    generalize bd ++ four (crcV (bodyB s)) = me at *
    have e : openL me = ([], false) := by
      unfold openL at ho ⊢
      split
      · rename_i q; rw [if_pos q] at ho; exact absurd ho (by simp)
      · rfl
    have hr : stream_Read me = some (z0S, 24) := by
      unfold stream_Read; rw [if_neg (by simp; omega), (open_eq hby (by omega) (by omega)).1, e]; rfl
    rw [hr, Option.bind_some, htu, decide_eq_true hx]
    rfl
end Go.Proofs.Ytgdbmgnfaefhoaa.Am
