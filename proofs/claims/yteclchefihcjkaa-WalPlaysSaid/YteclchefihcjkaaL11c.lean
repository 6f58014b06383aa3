/- Numbers of few bytes, lumps of bytes: what the functions are, as lists. -/
import Derived.Test.YteclchefihcjkaaO0
import Derived.Test.YteclchefihcjkaaL11b
import Derived.KernelRfl
import Derived.Lib.EndianBits
namespace Go.Proofs.Yteclchefihcjkaa.Am
open Go
set_option linter.unusedVariables false

/-! Bits -/
theorem bits_u8 : (List.range 256).all (fun x => Go.bits .or .u8 (x : Int) 128 == ((x : Int) % 128 + 128) && Go.bits .andNot .u8 (x : Int) 128 == (x : Int) % 128 && Go.bits .and .u8 (x : Int) 127 == (x : Int) % 128 &&
    (Go.bits .and .u8 (x : Int) 128 != 0) == decide (128 ≤ (x : Int))) = true := by decide +kernel
theorem bits8 {x : Int} (h0 : 0 ≤ x) (h1 : x < 256) : Go.bits .or .u8 x 128 = x % 128 + 128 ∧ Go.bits .andNot .u8 x 128 = x % 128 ∧ Go.bits .and .u8 x 127 = x % 128 ∧ (Go.bits .and .u8 x 128 != 0) = decide (128 ≤ x) := by
  obtain ⟨n, rfl⟩ := Int.eq_ofNat_of_zero_le h0
  have := List.all_eq_true.1 bits_u8 n (List.mem_range.2 (by omega))
  simp only [Bool.and_eq_true, beq_iff_eq] at this
  exact ⟨this.1.1.1, this.1.1.2, this.1.2, this.2⟩
def orS (n m : Int) (i : Nat) : Int := Go.bits .or .u64 n (shlI .u64 m (7 * i))
theorem orS_rng {n m : Int} {i : Nat} (h0 : 0 ≤ n) (h1 : n < 18446744073709551616) : 0 ≤ orS n m i ∧ orS n m i < 18446744073709551616 := by
  unfold orS shlI
  have e : IntKind.u64.wrap (m * 2 ^ (7 * i)) = (m * 2 ^ (7 * i)) % 18446744073709551616 := IntKind.wrap_u64 _
  rw [e]
  generalize hq : (m * 2 ^ (7 * i)) % 18446744073709551616 = q
  have q0 : 0 ≤ q := by omega
  have q1 : q < 18446744073709551616 := by omega
  obtain ⟨a, rfl⟩ := Int.eq_ofNat_of_zero_le h0
  obtain ⟨b, rfl⟩ := Int.eq_ofNat_of_zero_le q0
  have ha : a < 2 ^ 64 := by omega
  have hb : b < 2 ^ 64 := by omega
  have := (bits_nat .u64 64 (by decide) wraps_u64 a b ha hb).2
  rw [this]
  have := Nat.or_lt_two_pow ha hb
  omega
/-! Numbers, read -/

/-- What is read of a number's bytes; i of them were read. -/
def nR : List Int → Nat → Int → Ctl (Int × Nat × Int) Unit
  | [], _, _ => .go ()
  | c :: r, i, n =>
    if i = 9 ∧ c > 1 then .ret (0, 0, 20)
    else if 128 ≤ c then nR r (i + 1) (orS n (c % 128) i)
    else if 0 < i ∧ c = 0 then .ret (0, 0, 20)
    else .ret (orS n (c % 128) i, i + 1, 0)

theorem nR_spec : ∀ (l : List Int) (i : Nat) (n : Int), 0 ≤ n → n < 18446744073709551616 → match nR l i n with
    | .go () => True
    | .ret (v, s, e) => 0 ≤ v ∧ v < 18446744073709551616 ∧ (e = 0 → s ≤ i + l.length) ∧ (e = 0 ∨ e = 20 ∧ v = 0)
  | [], i, n, _, _ => trivial
  | c :: r, i, n, h0, h1 => by
    have o := orS_rng (m := c % 128) (i := i) h0 h1
    by_cases a1 : i = 9 ∧ c > 1
    · simp only [nR, if_pos a1]; simp
    · by_cases a2 : 128 ≤ c
      · simp only [nR, if_neg a1, if_pos a2]
        have := nR_spec r (i + 1) _ o.1 o.2
        cases hq : nR r (i + 1) (orS n (c % 128) i) with
        | go u => trivial
        | ret q =>
          obtain ⟨v, s, e⟩ := q
          simp only [hq] at this ⊢
          exact ⟨this.1, this.2.1, fun h => by have := this.2.2.1 h; simp; omega, this.2.2.2⟩
      · by_cases a3 : 0 < i ∧ c = 0
        · simp only [nR, if_neg a1, if_neg a2, if_pos a3]; simp
        · simp only [nR, if_neg a1, if_neg a2, if_neg a3, List.length_cons]; exact ⟨o.1, o.2, fun _ => by omega, by simp⟩

def cI (c : Ctl (Int × Nat × Int) Unit) : Ctl (Int × Int × Int) Unit := match c with | .go u => .go u | .ret (v, s, e) => .ret (v, (s : Int), e)

theorem byt_get {l : List Int} (h : Byt l) {i : Nat} (hi : i < l.length) : 0 ≤ l[i] ∧ l[i] < 256 := h _ (List.getElem_mem _)

theorem cnt7 {k : Nat} (hk : k ≤ 9) : cnt .u64 (IntKind.wrap .i64 (7 * (k : Int))) = some (7 * k) := by
  rw [wrap64 (by omega) (by omega)]
  unfold cnt
  rw [if_pos (by omega)]
  have : ((7 * (k : Int)).toNat) = 7 * k := by omega
  rw [this]
  have : min (7 * k) IntKind.u64.bits = 7 * k := Nat.min_eq_left (by show 7 * k ≤ 64; omega)
  rw [this]

theorem drop_at {l : List Int} {k : Nat} (h : k < l.length) : l.drop k = l[k] :: l.drop (k + 1) := by rw [List.getElem_cons_drop]

theorem number_eq {b : List Int} (hb : Byt b) (hl : b.length ≤ 1000000) : pack_number b = some (match nR b 0 0 with | .go () => (0, 0, 21) | .ret (v, s, e) => (v, (s : Int), e)) := by
  unfold pack_number
  rw [loop_eqF (s := (0, 0)) (fun s : Int × Int => ∃ (k : Nat), s.2 = (k : Int) ∧ k ≤ 9 ∧ k ≤ b.length ∨ s.2 = (k : Int) ∧ k = b.length) (fun s : Int × Int => (b.length - s.2).toNat) (fun s : Int × Int => cI (nR (b.drop s.2.toNat) s.2.toNat s.1)) ⟨0, .inl ⟨rfl, by omega, by omega⟩⟩ (by simp; omega)]
  · simp only [Int.toNat_zero, List.drop_zero]
    cases nR b 0 0 with
    | go u => rfl
    | ret r => rfl
  rintro ⟨n, _⟩ ⟨k, hk⟩
  have hk2 : k ≤ b.length ∧ (k < b.length → k ≤ 9) := by omega
  obtain rfl : _ = (k : Int) := hk.elim (fun h => h.1) (fun h => h.1)
  clear hk
  simp only [pack_number_L1, Int.toNat_natCast]
  by_cases hkl : k < b.length
  · obtain ⟨x0, x1⟩ := byt_get hb hkl
    have hk9 := hk2.2 hkl
    rw [if_pos (by simpa using hkl), idx_at hkl, drop_at hkl]
    simp only [Option.bind_some, nR]
    generalize b[k] = c at x0 x1
    obtain ⟨b1, b2, b3, b4⟩ := bits8 x0 x1
    have e9 : (if ((k : Int) == 9) then (some (decide (c > 1))) else (some false)) = some (decide (k = 9 ∧ c > 1)) := by
      by_cases h : k = 9
      · subst h; simp
      · rw [if_neg (by simp; omega)]; simp [h]
    rw [e9, b2, b4, cnt7 hk9]
    simp only [Option.bind_some]
    by_cases h9 : k = 9 ∧ c > 1
    · left
      rw [if_pos (by simpa using h9), if_pos h9]; rfl
    · rw [if_neg (by simpa using h9), if_neg h9]
      have ew : IntKind.wrap .u64 (c % 128) = c % 128 := wrap64u (by omega) (by omega)
      have ek : IntKind.wrap .i64 ((k : Int) + 1) = ((k + 1 : Nat) : Int) := by rw [wrap64 (by omega) (by omega)]; omega
      rw [ew, ek]
      by_cases h128 : 128 ≤ c
      · right
        rw [if_pos (by simpa using h128), if_pos h128]
        refine ⟨_, rfl, ⟨k + 1, ?_⟩, by simp only; omega, ?_⟩
        · by_cases hk8 : k ≤ 8
          · exact .inl ⟨rfl, by omega, by omega⟩
          · omega
        · simp only [Int.toNat_natCast]; rfl
      · left
        rw [if_neg (by simpa using h128), if_neg h128]
        have e0 : (if (decide ((k : Int) > 0)) then (some (c == 0)) else (some false)) = some (decide (0 < k ∧ c = 0)) := by
          by_cases h : 0 < k
          · rw [if_pos (by simpa using h)]; by_cases hc : c = 0 <;> simp [h, hc]
          · rw [if_neg (by simpa using h)]; simp [h]
        rw [e0]
        simp only [Option.bind_some]
        by_cases hz : 0 < k ∧ c = 0
        · rw [if_pos (by simpa using hz), if_pos hz]; rfl
        · rw [if_neg (by simpa using hz), if_neg hz]; rfl
  · left
    have hk : k = b.length := by omega
    rw [if_neg (by simpa using hkl), List.drop_eq_nil_of_le (by omega)]; rfl

/-- A reader: what is left, the first error. -/
abbrev Rd := List Int × Int
def numR (r : Rd) (most : Int) : Int × Rd :=
  if r.2 ≠ 0 then (0, r) else match nR r.1 0 0 with
  | .go () => (0, [], 21)
  | .ret (v, s, e) => if e ≠ 0 then (0, [], e) else if v > most then (0, [], 22) else (v, r.1.drop s, r.2)

def rdP (r : Rd) : Pack_Reader := ⟨⟨r.1, r.2⟩⟩
def rdM (r : Rd) : Mementoref1_Reader := ⟨r.1, r.2⟩
def RdOk (r : Rd) : Prop := Byt r.1 ∧ r.1.length ≤ 1000000

theorem packNum_eq {r : Rd} (h : RdOk r) (most : Int) : pack_Reader_Num (rdP r) most = some ((numR r most).1, rdP (numR r most).2) := by
  obtain ⟨b, e⟩ := r
  unfold pack_Reader_Num numR rdP
  simp only
  by_cases he : e = 0
  · subst he
    rw [if_neg (by simp), if_neg (by simp), number_eq h.1 h.2]
    simp only [Option.bind_some, pack_rest_fail]
    have sp := nR_spec b 0 0 (by omega) (by omega)
    cases hn : nR b 0 0 with
    | go u => simp
    | ret q =>
      obtain ⟨v, s, e⟩ := q
      rw [hn] at sp
      simp only at sp ⊢
      by_cases he : e = 0
      · subst he
        simp only [bne_self_eq_false, Bool.false_eq_true, if_false, ne_eq, not_true_eq_false]
        by_cases hv : v > most
        · rw [if_pos (by simpa using hv), if_pos hv]
        · have := sp.2.2.1 rfl
          rw [if_neg (by simpa using hv), if_neg hv, slc_nat b (by omega) (Nat.le_refl _)]
          simp
      · rw [if_pos (by simpa using he), if_pos he]
  · rw [if_pos (by simpa using he), if_pos he]

def cM (r : Rd) (most : Int) (c : Ctl (Int × Nat × Int) Unit) : Ctl (Int × Mementoref1_Reader) Unit := match c with
  | .go u => .go u
  | .ret (v, s, e) => if e ≠ 0 then .ret (0, rdM ([], e)) else if v > most then .ret (0, rdM ([], 22)) else .ret (v, rdM (r.1.drop s, r.2))

theorem refNum_eq {r : Rd} (h : RdOk r) (most : Int) : mementoref1_Reader_Num (rdM r) most = some ((numR r most).1, rdM (numR r most).2) := by
  obtain ⟨b, e⟩ := r
  unfold mementoref1_Reader_Num
  by_cases he : e = 0
  rotate_left
  · unfold numR; rw [if_pos (by simpa [rdM] using he), if_pos (by simpa using he)]
  subst he
  rw [if_neg (by simp [rdM])]
  have hl := h.2
  rw [loop_eqF (s := (0, 0)) (fun s : Int × Int => ∃ (k : Nat), s.2 = (k : Int) ∧ k ≤ 9 ∧ k ≤ b.length ∨ s.2 = (k : Int) ∧ k = b.length) (fun s : Int × Int => (b.length - s.2).toNat) (fun s : Int × Int => cM (b, 0) most (nR (b.drop s.2.toNat) s.2.toNat s.1)) ⟨0, .inl ⟨rfl, by omega, by omega⟩⟩ (by simp at hl ⊢; omega)]
  · simp only [Int.toNat_zero, List.drop_zero, numR]
    cases nR b 0 0 with
    | go u => simp [kont, cM, mementoref1_Reader_fail, rdM]
    | ret r =>
      obtain ⟨v, s, e⟩ := r
      simp only [cM, ne_eq, not_true_eq_false, if_false]
      by_cases he : e = 0
      · by_cases hv : v > most <;> simp [he, hv, kont]
      · simp [he, kont]
  rintro ⟨n, _⟩ ⟨k, hk⟩
  have hk2 : k ≤ b.length ∧ (k < b.length → k ≤ 9) := by omega
  obtain rfl : _ = (k : Int) := hk.elim (fun h => h.1) (fun h => h.1)
  clear hk
  dsimp only [mementoref1_Reader_Num_L1, rdM]
  simp only [Int.toNat_natCast]
  by_cases hkl : k < b.length
  · obtain ⟨x0, x1⟩ := byt_get h.1 hkl
    have hk9 := hk2.2 hkl
    rw [if_pos (by simpa using hkl), idx_at hkl, drop_at hkl]
    simp only [Option.bind_some, nR]
    generalize hc : b[k] = c at x0 x1
    obtain ⟨b1, b2, b3, b4⟩ := bits8 x0 x1
    have e9 : (if ((k : Int) == 9) then (some (decide (c > 1))) else (some false)) = some (decide (k = 9 ∧ c > 1)) := by
      by_cases h : k = 9
      · subst h; simp
      · rw [if_neg (by simp; omega)]; simp [h]
    rw [e9, b3, cnt7 hk9]
    simp only [Option.bind_some, mementoref1_Reader_fail]
    by_cases h9 : k = 9 ∧ c > 1
    · left
      rw [if_pos (by simpa using h9), if_pos h9]; simp [cM, early, rdM]
    · rw [if_neg (by simpa using h9), if_neg h9]
      have ew : IntKind.wrap .u64 (c % 128) = c % 128 := wrap64u (by omega) (by omega)
      have ek : IntKind.wrap .i64 ((k : Int) + 1) = ((k + 1 : Nat) : Int) := by rw [wrap64 (by omega) (by omega)]; omega
      rw [ew, ek]
      by_cases h128 : 128 ≤ c
      · right
        rw [if_neg (by simp; omega), if_pos h128]
        refine ⟨_, rfl, ⟨k + 1, ?_⟩, by simp only; omega, ?_⟩
        · by_cases hk8 : k ≤ 8
          · exact .inl ⟨rfl, by omega, by omega⟩
          · omega
        · simp only [Int.toNat_natCast]; rfl
      · left
        rw [if_pos (by simp; omega), if_neg h128]
        have e0 : (if (decide ((k : Int) > 0)) then (some (c == 0)) else (some false)) = some (decide (0 < k ∧ c = 0)) := by
          by_cases h : 0 < k
          · rw [if_pos (by simpa using h)]; by_cases hc : c = 0 <;> simp [h, hc]
          · rw [if_neg (by simpa using h)]; simp [h]
        rw [e0]
        simp only [Option.bind_some]
        by_cases hz : 0 < k ∧ c = 0
        · rw [if_pos (by simpa using hz), if_pos hz]; simp [cM, early, rdM]
        · rw [if_neg (by simpa using hz), if_neg hz]
          simp only [cM, ne_eq, not_true_eq_false, if_false]
          show (if decide (orS n (c % 128) k > most) = true then _ else _) = _
          by_cases hv : orS n (c % 128) k > most
          · rw [if_pos (by simpa using hv), if_pos hv]; simp [early, rdM]
          · rw [if_neg (by simpa using hv), if_neg hv, slc_nat b (by omega) (Nat.le_refl _)]
            simp [early, rdM]; rfl
  · left
    have hk : k = b.length := by omega
    rw [if_neg (by simpa using hkl), List.drop_eq_nil_of_le (by omega)]; rfl

end Go.Proofs.Yteclchefihcjkaa.Am
