/- Slots on a disk: whatever crash comes while one is set, the elder one counts, or it. -/
import Derived.Test.YteclchefihcjkaaL4c
import Derived.Test.YteclchefihcjkaaL4e
namespace Go.Proofs.Yteclchefihcjkaa.Am
open Go
set_option linter.unusedVariables false
set_option linter.unusedSimpArgs false
set_option maxRecDepth 100000

theorem strOf_inj {a b : List Int} (ha : Byt a) (hb : Byt b) (h : strOf a = strOf b) : a = b := by
  have inv : ∀ {l : List Int}, Byt l → (strOf l).map ofU8 = l := fun {l} hl => by
    unfold strOf
    rw [List.map_map]
    conv => rhs; rw [← List.map_id l]
    apply List.map_congr_left
    intro x hx
    obtain ⟨h0, h1⟩ := hl x hx
    simp only [Function.comp, ofU8, u8, id]
    rw [UInt8.toNat_ofNat']
    omega
  rw [← inv ha, ← inv hb, h]
theorem read_ok {b : List Int} (hb : Byt b) {s : Slot_Slot} (h : slot_Read b = some (s, true)) :
    b.length = 64 ∧ s = ⟨(leV (b.take 8) : Int), (leV ((b.drop 8).take 8) : Int), (leV ((b.drop 16).take 8) : Int)⟩ ∧ 0 < leV (b.take 8) ∧ b = ptS (leV (b.take 8)) (leV ((b.drop 8).take 8)) (leV ((b.drop 16).take 8)) := by
  unfold slot_Read at h
  by_cases hl : b.length = 64
  rotate_left
  · rw [if_pos (by simp; omega)] at h; cases h
  rw [if_neg (by simp; omega)] at h
  have s1 : slc b 8 (b.length : Int) = some (b.drop 8) := by
    have := slc_nat b (a := 8) (b := b.length) (by omega) (by omega)
    rw [List.take_length] at this; exact this
  have s2 : slc b 16 (b.length : Int) = some (b.drop 16) := by
    have := slc_nat b (a := 16) (b := b.length) (by omega) (by omega)
    rw [List.take_length] at this; exact this
  rw [s1, s2] at h
  simp only [Option.bind_some] at h
  rw [read8_eq (by rw [List.length_drop]; omega) (fun x h => hb x (List.mem_of_mem_drop h)), read8_eq (by omega) hb, read8_eq (by rw [List.length_drop]; omega) (fun x h => hb x (List.mem_of_mem_drop h))] at h
  simp only [Option.bind_some] at h
  generalize leV (b.take 8) = c at *
  generalize leV ((b.drop 8).take 8) = g at *
  generalize leV ((b.drop 16).take 8) = a at *
  by_cases h1 : (c : Int) < 1
  · have e1 : decide ((c : Int) < 1) = true := by simpa using h1
    simp [e1] at h
  have e1 : decide ((c : Int) < 1) = false := by simp; omega
  by_cases h2 : (a : Int) > 1
  · have e3 : decide ((a : Int) > 1) = true := by simpa using h2
    simp [e1, e3] at h
  have e3 : decide ((a : Int) > 1) = false := by rw [decide_eq_false_iff_not]; exact h2
  have hm : minI (a : Int) 2 = a := by unfold minI; split <;> omega
  have hx : (maxI (a : Int) 0).toNat = a := by unfold maxI; split <;> omega
  rw [hm, wrap64 (n := (a : Int)) (by omega) (by omega), put4_eq c g a (by omega), hx] at h
  simp only [e1, e3, Bool.false_eq_true, if_false, Option.bind_some, bytes_Equal] at h
  by_cases h3 : strOf b = strOf (ptS c g a)
  · have e5 : (strOf b == strOf (ptS c g a)) = true := by simpa using h3
    simp only [e5, Bool.not_true, Bool.false_eq_true, if_false, Option.some.injEq, Prod.mk.injEq] at h
    exact ⟨hl, h.1.symm, by omega, strOf_inj hb (ptS_byt _ _ _) h3⟩
  · have e5 : (strOf b == strOf (ptS c g a)) = false := by simpa using h3
    simp [e5] at h

/-- A torn one is read only where it is whole. -/
theorem read_torn {c g a t : Nat} (hc2 : c < 18446744073709551616) (hg : g < 18446744073709551616) (ha : a ≤ 1) (ht : t < 64) {s : Slot_Slot} (h : slot_Read ((ptS c g a).take t ++ Z64.drop t) = some (s, true)) : s = ⟨c, g, a⟩ := by
  have hl := ptS_len c g a
  have hb := ptS_byt c g a
  have zb : Byt Z64 := fun x hx => by unfold Z64 at hx; have := List.eq_of_mem_replicate hx; omega
  have pw : (256 : Nat) ^ 8 = 18446744073709551616 := by decide
  obtain ⟨h1, h2, h3, h4⟩ := read_ok (Byt.app (fun x h => hb x (List.mem_of_mem_take h)) (fun x h => zb x (List.mem_of_mem_drop h))) h
  generalize hT : (ptS c g a).take t ++ Z64.drop t = T at *
  have t56 : 56 < t := by
    by_cases q : 56 < t
    · exact q
    · exfalso
      have d1 : T.drop 56 = List.replicate 8 0 := by
        rw [← hT, List.drop_append, List.drop_of_length_le (by rw [List.length_take]; omega), List.nil_append, List.drop_drop, List.length_take, Nat.min_eq_left (by omega), show t + (56 - t) = 56 by omega]
        rfl
      have d2 : T.drop 56 = leB 8 (leV (T.take 8)) := by
        conv => lhs; rw [h4]
        unfold ptS
        rw [List.drop_append_of_le_length (by simp [leB_len]), List.drop_of_length_le (by simp [leB_len]), List.nil_append]
      have l8 : leV (T.take 8) < 256 ^ 8 := by
        have := leV_lt (l := T.take 8) (fun x hx => by
          have hx' := List.mem_of_mem_take hx
          rw [h4] at hx'
          exact ptS_byt _ _ _ x hx')
        rw [List.length_take, h1] at this
        exact this
      have := leV_leB 8 (leV (T.take 8)) l8
      rw [← d2, d1] at this
      have z : leV (List.replicate 8 0) = 0 := by decide
      omega
  have k1 : T.take 8 = (ptS c g a).take 8 := by rw [← hT, List.take_append_of_le_length (by rw [List.length_take]; omega), List.take_take, Nat.min_eq_left (by omega)]
  have k2 : (T.drop 8).take 8 = ((ptS c g a).drop 8).take 8 := by
    rw [← hT, List.drop_append_of_le_length (by rw [List.length_take]; omega), List.take_append_of_le_length (by rw [List.length_drop, List.length_take]; omega), List.drop_take, List.take_take, Nat.min_eq_left (by omega)]
  have k3 : (T.drop 16).take 8 = ((ptS c g a).drop 16).take 8 := by
    rw [← hT, List.drop_append_of_le_length (by rw [List.length_take]; omega), List.take_append_of_le_length (by rw [List.length_drop, List.length_take]; omega), List.drop_take, List.take_take, Nat.min_eq_left (by omega)]
  obtain ⟨t1, t2, t3⟩ := pt_take c g a
  rw [h2, k1, k2, k3, t1, t2, t3, leV_leB 8 c (by omega), leV_leB 8 g (by omega), leV_leB 8 a (by omega)]

/-! the document's disk -/

theorem sector_eq {b : List Int} (h : b.length = 64) : mementoref3_sector b = some b := by
  unfold mementoref3_sector
  rw [app_of (by simp; omega) (by simp; omega), Option.bind_some, List.nil_append]
  rw [loop_eqF (s := b) (fun s => s = b) (fun s => 0) (fun _ => b) rfl (by omega)]
  · rfl
  rintro _ rfl
  left
  simp only [mementoref3_sector_L1]
  rw [if_neg (by simp; omega)]
  rfl
def wdec (n : Int) : Int := if n < 0 then n else n - 1
theorem spend_eq {S : List (List Int)} {l : List Mementoref3_write} {p : Int} (h0 : p ≠ 0) (h1 : -1 ≤ p ∧ p ≤ 10) : mementoref3_Disk_spend ⟨S, l, p⟩ = some (true, ⟨S, l, wdec p⟩) := by
  unfold mementoref3_Disk_spend wdec
  by_cases h : p < 0
  · rw [if_pos (by simpa using h), if_pos h]
  · rw [if_neg (by simpa using h), if_neg (by simpa using h0), if_neg h, wrap64 (by simp only; omega) (by simp only; omega)]
theorem spend_no {S : List (List Int)} {l : List Mementoref3_write} : mementoref3_Disk_spend ⟨S, l, 0⟩ = some (false, ⟨S, l, 0⟩) := rfl
theorem wwrite_eq {S : List (List Int)} {p : Int} {i : Nat} {b : List Int} (h0 : p ≠ 0) (h1 : -1 ≤ p ∧ p ≤ 10) (hi : i < S.length) (hb : b.length = 64) : mementoref3_Disk_Write ⟨S, [], p⟩ i b = some (0, ⟨S, [⟨i, b⟩], wdec p⟩) := by
  unfold mementoref3_Disk_Write
  rw [if_neg (by simp), Option.bind_some, if_neg (by simp; omega), if_neg (by simp; omega), spend_eq h0 h1, Option.bind_some]
  dsimp only
  rw [if_neg (by simp), app_of (by simp) (by simp), Option.bind_some, sector_eq hb, Option.bind_some, app_of (by simp) (by simp), Option.bind_some]
  rfl
theorem wwrite_no {S : List (List Int)} {l : List Mementoref3_write} {i : Nat} {b : List Int} (hi : i < S.length) (hb : b.length = 64) : mementoref3_Disk_Write ⟨S, l, 0⟩ i b = some (26, ⟨S, l, 0⟩) := by
  unfold mementoref3_Disk_Write
  rw [if_neg (by simp), Option.bind_some, if_neg (by simp; omega), if_neg (by simp; omega), spend_no, Option.bind_some]
  rfl
theorem settle0 {S : List (List Int)} {l0 : List Mementoref3_write} {p : Int} (hS : S.length ≤ 100) : mementoref3_Disk_settle ⟨S, l0, p⟩ 0 [] = some ⟨S, [], p⟩ := by
  unfold mementoref3_Disk_settle
  rw [app_of (by simp; omega) (by simp; omega), Option.bind_some, List.nil_append]
  rw [loop_eqF (s := (0, S)) (fun s => s = (0, S)) (fun s => 0) (fun _ => S) rfl (by omega)]
  · rfl
  rintro _ rfl
  left
  simp only [mementoref3_Disk_settle_L1]
  rw [if_neg (by simp)]
  rfl
theorem settle1 {S : List (List Int)} {l0 : List Mementoref3_write} {p : Int} {i : Nat} {b : List Int} (hS : S.length ≤ 100) (hi : i < S.length) : mementoref3_Disk_settle ⟨S, l0, p⟩ 1 [⟨i, b⟩] = some ⟨S.set i b, [], p⟩ := by
  unfold mementoref3_Disk_settle
  rw [app_of (by simp; omega) (by simp; omega), Option.bind_some, List.nil_append]
  rw [loop_eqF (s := (0, S)) (fun s : Int × List (List Int) => s = (0, S) ∨ s = (1, S.set i b)) (fun s => (1 - s.1).toNat) (fun _ => S.set i b) (.inl rfl) (by simp)]
  · rfl
  rintro _ (rfl | rfl)
  · right
    simp only [mementoref3_Disk_settle_L1]
    have e : idx [(⟨(i : Int), b⟩ : Mementoref3_write)] 0 = some ⟨i, b⟩ := rfl
    rw [if_pos (by simp), e, Option.bind_some]
    dsimp only
    rw [idx_at hi, Option.bind_some, updL_nat hi, Option.bind_some, wrap64 (by omega) (by omega)]
    exact ⟨_, rfl, .inr rfl, by simp, by first | trivial | rfl⟩
  · left
    simp only [mementoref3_Disk_settle_L1]
    rw [if_neg (by simp)]
    rfl
theorem wread_eq {S : List (List Int)} {p : Int} {i : Nat} (hi : i < S.length) (hb : S[i].length ≤ 1000) : mementoref3_Disk_Read ⟨S, [], p⟩ i = some S[i] := by
  unfold mementoref3_Disk_Read
  rw [if_neg (by simp), Option.bind_some, if_neg (by simp; omega), idx_at hi, Option.bind_some]
  rw [loop_eqF (s := (S[i], 0)) (fun s => s = (S[i], 0)) (fun s => 0) (fun _ => S[i]) rfl (by omega)]
  · rw [Option.bind_some, app_of (by simp; omega) (by simp; omega)]; rfl
  rintro _ rfl
  left
  simp only [mementoref3_Disk_Read_L1]
  rw [if_neg (by simp)]
  rfl
theorem wcrash0 {S : List (List Int)} {p mask torn : Int} (hS : S.length ≤ 100) : mementoref3_Disk_Crash ⟨S, [], p⟩ mask torn = some ⟨S, [], -1⟩ := by
  unfold mementoref3_Disk_Crash
  rw [loop_eqF (s := (([] : List Mementoref3_write), 0)) (fun s => s = ([], 0)) (fun s => 0) (fun _ => []) rfl (by omega)]
  · rw [Option.bind_some, if_neg (by simp), Option.bind_some, if_neg (by simp), Option.bind_some]
    have := settle0 (S := S) (l0 := []) (p := p) hS
    simp only [List.length_nil, Int.natCast_zero, this, Option.bind_some]
  rintro _ rfl
  left
  simp only [mementoref3_Disk_Crash_L1]
  rw [if_neg (by simp), Option.bind_some, if_neg (by simp)]
  rfl
theorem wcrash1 {S : List (List Int)} {p mask torn : Int} {i : Nat} {b : List Int} (hS : S.length ≤ 100) (hm : U64 mask) (hi : i < S.length) (hb : b.length = 64) (hSi : S[i].length = 64) :
    mementoref3_Disk_Crash ⟨S, [⟨i, b⟩], p⟩ mask torn = some ⟨if bitM mask 0 then S.set i (if 0 ≤ torn ∧ torn < 64 then b.take torn.toNat ++ S[i].drop torn.toNat else b) else S, [], -1⟩ := by
  unfold mementoref3_Disk_Crash
  have eb := (bit_eq hm 0).1
  rw [loop_eqF (s := (([] : List Mementoref3_write), 0)) (fun s : List Mementoref3_write × Int => s = ([], 0) ∨ s = (if bitM mask 0 then [⟨i, b⟩] else [], 1)) (fun s => (1 - s.2).toNat) (fun _ => if bitM mask 0 then [⟨i, b⟩] else []) (.inl rfl) (by simp)]
  rotate_left
  · rintro _ (rfl | rfl)
    · right
      simp only [mementoref3_Disk_Crash_L1]
      have c0 : cnt .u64 0 = some 0 := rfl
      have e : idx [(⟨(i : Int), b⟩ : Mementoref3_write)] 0 = some ⟨i, b⟩ := rfl
      rw [if_pos (by simp), Option.bind_some, if_pos (by simp), c0, Option.bind_some, eb, e, wrap64 (by omega) (by omega)]
      cases bitM mask 0 with
      | false => exact ⟨_, rfl, .inr rfl, by simp, by first | trivial | rfl⟩
      | true => exact ⟨_, rfl, .inr rfl, by simp, by first | trivial | rfl⟩
    · left
      simp only [mementoref3_Disk_Crash_L1]
      rw [if_neg (by simp), Option.bind_some, if_neg (by simp)]
      rfl
  rw [Option.bind_some]
  cases bitM mask 0 with
  | false =>
    simp only [Bool.false_eq_true, if_false]
    rw [if_neg (by simp), Option.bind_some, if_neg (by simp), Option.bind_some]
    have := settle0 (S := S) (l0 := [⟨i, b⟩]) (p := p) hS
    simp only [List.length_nil, Int.natCast_zero, this, Option.bind_some]
  | true =>
    simp only [if_true]
    by_cases ht : 0 ≤ torn ∧ torn < 64
    · obtain ⟨t, rfl⟩ := Int.eq_ofNat_of_zero_le ht.1
      have e : idx [(⟨(i : Int), b⟩ : Mementoref3_write)] 0 = some ⟨i, b⟩ := rfl
      have w0 : IntKind.wrap .i64 ((([(⟨(i : Int), b⟩ : Mementoref3_write)].length : Nat) : Int) - 1) = 0 := by rw [wrap64 (by simp) (by simp)]; simp
      have d1 : decide ((t : Int) < 64) = true := by simp; omega
      rw [if_pos (by simp), if_pos (by simp), Option.bind_some, d1, if_pos rfl, w0, e, Option.bind_some]
      dsimp only
      rw [idx_at hi, Option.bind_some]
      rw [loop_eqF (s := (S[i], 0)) (fun s => s = (S[i], 0)) (fun s => 0) (fun _ => S[i]) rfl (by omega)]
      rotate_left
      · rintro _ rfl
        left
        simp only [mementoref3_Disk_Crash_L2]
        rw [w0, if_neg (by simp)]
        rfl
      have s1 : slc b 0 (t : Int) = some (b.take t) := slc_nat b (a := 0) (b := t) (by omega) (by omega)
      have s2 : slc S[i] (t : Int) (S[i].length : Int) = some (S[i].drop t) := by
        have := slc_nat S[i] (a := t) (b := S[i].length) (by omega) (by omega)
        rw [List.take_length] at this; exact this
      rw [Option.bind_some, s1, Option.bind_some, app_of (by simp; omega) (by simp; omega), Option.bind_some, s2, Option.bind_some, List.nil_append, app_of (by simp; omega) (by simp; omega), Option.bind_some]
      have u0 : updL [(⟨(i : Int), b⟩ : Mementoref3_write)] 0 ⟨i, b.take t ++ S[i].drop t⟩ = some [⟨i, b.take t ++ S[i].drop t⟩] := rfl
      rw [u0, Option.bind_some, Option.bind_some]
      have := settle1 (S := S) (l0 := [⟨i, b⟩]) (p := p) (b := b.take t ++ S[i].drop t) hS hi
      rw [if_pos ht]
      simp only [List.length_cons, List.length_nil, Nat.zero_add, Int.natCast_one, this, Option.bind_some, Int.toNat_natCast]
    · have ec : (if decide ((([(⟨(i : Int), b⟩ : Mementoref3_write)].length : Nat) : Int) > 0) = true then if decide (torn ≥ 0) = true then some (decide (torn < 64)) else some false else some false) = some false := by
        rw [if_pos (by simp)]
        by_cases h : torn ≥ 0
        · rw [if_pos (by simpa using h)]; simp; omega
        · rw [if_neg (by simpa using h)]
      rw [ec, Option.bind_some, if_neg (by simp), Option.bind_some, if_neg ht]
      have := settle1 (S := S) (l0 := [⟨i, b⟩]) (p := p) (b := b) hS hi
      simp only [List.length_cons, List.length_nil, Nat.zero_add, Int.natCast_one, this, Option.bind_some]

end Go.Proofs.Yteclchefihcjkaa.Am
