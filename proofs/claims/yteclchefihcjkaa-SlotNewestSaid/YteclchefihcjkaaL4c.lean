/- Slots on a disk: of those set one behind another the last one counts. -/
import Derived.Test.YteclchefihcjkaaL4b
import Derived.Test.YteclchefihcjkaaL4d
import Derived.Test.YteclchefihcjkaaK4
namespace Go.Proofs.Yteclchefihcjkaa.Am
open Go
set_option linter.unusedVariables false
set_option linter.unusedSimpArgs false
set_option maxRecDepth 100000

theorem pt_take (c g a : Nat) : (ptS c g a).take 8 = leB 8 c ∧ ((ptS c g a).drop 8).take 8 = leB 8 g ∧ ((ptS c g a).drop 16).take 8 = leB 8 a := by
  unfold ptS
  have h1 := leB_len 8 c
  have h2 := leB_len 8 g
  have h3 := leB_len 8 a
  generalize leB 8 c = x at *
  generalize leB 8 g = y at *
  generalize leB 8 a = z at *
  match x, h1, y, h2, z, h3 with
  | [a0, a1, a2, a3, a4, a5, a6, a7], _, [b0, b1, b2, b3, b4, b5, b6, b7], _, [c0, c1, c2, c3, c4, c5, c6, c7], _ => exact ⟨rfl, rfl, rfl⟩

/-- A slot that was put is read. -/
theorem read_pt {c g a : Nat} (hc : 0 < c) (hc2 : c < 18446744073709551616) (hg : g < 18446744073709551616) (ha : a ≤ 1) : slot_Read (ptS c g a) = some (⟨c, g, a⟩, true) := by
  have hl := ptS_len c g a
  have hb := ptS_byt c g a
  obtain ⟨t1, t2, t3⟩ := pt_take c g a
  have p : (256 : Nat) ^ 8 = 18446744073709551616 := by decide
  unfold slot_Read
  rw [if_neg (by simp; omega)]
  have s1 : slc (ptS c g a) 8 ((ptS c g a).length : Int) = some ((ptS c g a).drop 8) := by
    have := slc_nat (ptS c g a) (a := 8) (b := (ptS c g a).length) (by omega) (by omega)
    rw [List.take_length] at this; exact this
  have s2 : slc (ptS c g a) 16 ((ptS c g a).length : Int) = some ((ptS c g a).drop 16) := by
    have := slc_nat (ptS c g a) (a := 16) (b := (ptS c g a).length) (by omega) (by omega)
    rw [List.take_length] at this; exact this
  rw [s1, s2]
  simp only [Option.bind_some]
  rw [read8_eq (by rw [List.length_drop]; omega) (fun x h => hb x (List.mem_of_mem_drop h)), read8_eq (by omega) hb, read8_eq (by rw [List.length_drop]; omega) (fun x h => hb x (List.mem_of_mem_drop h)), t1, t2, t3, leV_leB 8 c (by omega), leV_leB 8 g (by omega), leV_leB 8 a (by omega)]
  simp only [Option.bind_some]
  have hm : minI (a : Int) 2 = a := by unfold minI; split <;> omega
  have hx : (maxI (a : Int) 0).toNat = a := by unfold maxI; split <;> omega
  rw [hm, wrap64 (n := (a : Int)) (by omega) (by omega), put4_eq c g a (by omega), hx]
  have e1 : decide ((c : Int) < 1) = false := by simp; omega
  have e3 : decide ((a : Int) > 1) = false := by simp; omega
  simp [e1, e3, bytes_Equal]
theorem read_Z : slot_Read Z64 = some (⟨0, 0, 0⟩, false) := by kernel_rfl

/-- What may stand in a sector: none, or a slot of at most such a count. -/
def Old (n : Nat) (b : List Int) : Prop := b = Z64 ∨ ∃ c g a : Nat, b = ptS c g a ∧ 0 < c ∧ c ≤ n ∧ g < 18446744073709551616 ∧ a ≤ 1
theorem Old.mono {n m : Nat} (h : n ≤ m) {b : List Int} (hb : Old n b) : Old m b := by
  rcases hb with h1 | ⟨c, g, a, h1, h2, h3, h4⟩
  · exact .inl h1
  · exact .inr ⟨c, g, a, h1, h2, by omega, h4⟩
theorem Old.read {n : Nat} (hn : n < 18446744073709551616) {b : List Int} (hb : Old n b) : ∃ s ok, slot_Read b = some (s, ok) ∧ (ok = true → s.Count ≤ n) := by
  rcases hb with rfl | ⟨c, g, a, rfl, h2, h3, h4, h5⟩
  · exact ⟨_, _, read_Z, fun h => by cases h⟩
  · exact ⟨_, _, read_pt h2 (by omega) h4 h5, fun _ => by simp only; omega⟩

structure DI (n : Nat) (d : Pdisk_Disk) : Prop where
  ok : DiskOk d
  n2 : d.n = 2
  pw : d.power = -1
  o0 : Old n (rdD d 0)
  o1 : Old n (rdD d 1)
theorem pad64 {b : List Int} (h : b.length = 64) : pad b = b := by unfold pad; rw [h]; simp

theorem set_eq {n : Nat} {d : Pdisk_Disk} (h : DI n d) {g a : Nat} (hn : n < 1099511627776) (hg : g < 18446744073709551616) (ha : a ≤ 1) :
    ∃ d', slot_Set d ⟨((n + 1 : Nat) : Int), g, a⟩ = some (0, d') ∧ DI (n + 1) d' ∧ slot_Choose d' = some (⟨((n + 1 : Nat) : Int), g, a⟩, true) := by
  have hp : (ptS (n + 1) g a).length = 64 := ptS_len _ _ _
  have hx : (maxI (a : Int) 0).toNat = a := by unfold maxI; split <;> omega
  have hq : ∃ q : Nat, q ≤ 1 ∧ IntKind.wrap .i64 (Int.tmod ((n + 1 : Nat) : Int) 2) = (q : Int) := by
    rw [Int.tmod_eq_emod_of_nonneg (by omega), wrap64 (by omega) (by omega)]
    exact ⟨(n + 1) % 2, by omega, by omega⟩
  obtain ⟨q, hq, hqe⟩ := hq
  have hin : (0 : Int) ≤ q ∧ (q : Int) < d.n := by rw [h.n2]; omega
  have pw := h.pw
  have hw := wr_ok h.ok hin (b := ptS (n + 1) g a) (by omega)
  have pw2 : (wrD d q (ptS (n + 1) g a)).power = -1 := by unfold wrD dec; simp only; rw [pw]; rfl
  have hf := fl_ok hw
  have pw3 : (flD (wrD d q (ptS (n + 1) g a))).power = -1 := by unfold flD dec; simp only; rw [pw2]; rfl
  have hr : ∀ j : Int, rdD (flD (wrD d q (ptS (n + 1) g a))) j = if (q : Int) = j then ptS (n + 1) g a else rdD d j := fun j => by
    rw [rd_fl hw, rd_wr, pad64 hp]
  refine ⟨flD (wrD d q (ptS (n + 1) g a)), ?_, ?_, ?_⟩
  · unfold slot_Set
    rw [put4_eq (n + 1) g a (by omega), hx, Option.bind_some]
    dsimp only
    rw [hqe, write_eq h.ok hin (by omega) (by omega), Option.bind_some]
    dsimp only
    rw [if_neg (by simp), flush_eq hw (by omega)]
    rfl
  · refine ⟨hf, by unfold flD wrD; exact h.n2, pw3, ?_, ?_⟩
    · rw [hr]
      split
      · exact .inr ⟨n + 1, g, a, rfl, by omega, by omega, hg, ha⟩
      · exact h.o0.mono (by omega)
    · rw [hr]
      split
      · exact .inr ⟨n + 1, g, a, rfl, by omega, by omega, hg, ha⟩
      · exact h.o1.mono (by omega)
  · have dn : (flD (wrD d q (ptS (n + 1) g a))).n = 2 := by unfold flD wrD; exact h.n2
    have rp := read_pt (c := n + 1) (g := g) (a := a) (by omega) (by omega) hg ha
    unfold slot_Choose
    rw [read_eq hf (by rw [dn]; omega), Option.bind_some, hr, read_eq hf (by rw [dn]; omega), hr]
    by_cases q0 : q = 0
    · subst q0
      obtain ⟨s, ok, e1, e2⟩ := h.o1.read (by omega)
      rw [if_pos (show ((0 : Nat) : Int) = 0 from rfl), if_neg (by omega), rp, Option.bind_some]
      dsimp only
      rw [Option.bind_some, e1, Option.bind_some]
      cases ok with
      | false => rfl
      | true =>
        have := e2 rfl
        have hd : decide (s.Count > ((n + 1 : Nat) : Int)) = false := by simp; omega
        simp only [if_true, Bool.not_true, Bool.false_eq_true, if_false, hd, Option.bind_some]
    · obtain rfl : q = 1 := by omega
      obtain ⟨s, ok, e1, e2⟩ := h.o0.read (by omega)
      rw [if_neg (by omega), if_pos (show ((1 : Nat) : Int) = 1 from rfl), e1, Option.bind_some]
      dsimp only
      rw [Option.bind_some, rp, Option.bind_some]
      cases ok with
      | false => rfl
      | true =>
        have := e2 rfl
        have hd : decide (((n + 1 : Nat) : Int) > s.Count) = true := by simp; omega
        simp only [if_true, Bool.not_true, Bool.false_eq_true, if_false, hd, Option.bind_some]

theorem slotNewest_eq {n first : Int} {gens : List Int} (hn : Ik .u8 n) (hg : ∀ x ∈ gens, Ik .u64 x) (hf : Ik .u32 first) : mementolaw4_SlotNewest n gens first = some true := by
  have nu := hn.u8
  have f0 : 0 ≤ first := hf.1
  have f1 : first ≤ 4294967295 := hf.2
  obtain ⟨f, rfl⟩ := Int.eq_ofNat_of_zero_le f0
  have m2 : IntKind.u64.max = 18446744073709551615 := by decide
  have m1 : IntKind.u64.min = 0 := by decide
  unfold mementolaw4_SlotNewest
  rw [known4, Option.bind_some, if_neg (by simp)]
  by_cases l0 : gens.length ≤ 12
  rotate_left
  · rw [if_pos (by simp; omega)]
  rw [if_neg (by simp; omega), new3 (by omega), Option.bind_some]
  have hc0 : slot_Choose ⟨2, [], [], [], -1⟩ = some (⟨0, 0, 0⟩, false) := by kernel_rfl
  rw [hc0, Option.bind_some]
  dsimp only
  rw [if_neg (by simp)]
  have d0 : DI f ⟨2, [], [], [], -1⟩ := ⟨new3_ok (by omega), rfl, rfl, .inl (rd_new _ _), .inl (rd_new _ _)⟩
  obtain ⟨r, hr, hp⟩ := loop_QF (b := mementolaw4_SlotNewest_L1 n gens (f : Int)) (s := ((0 : Int), (⟨2, [], [], [], -1⟩ : Pdisk_Disk))) (fun s => ∃ (j : Nat) (d : Pdisk_Disk), s = ((j : Int), d) ∧ j ≤ gens.length ∧ DI (f + j) d) (fun s => gens.length - s.1.toNat)
    (fun r => ∃ d, r = .go d) ⟨0, _, rfl, by omega, d0⟩ (by simp; omega) (by
    rintro _ ⟨j, d, rfl, hj, hd⟩
    dsimp only [mementolaw4_SlotNewest_L1]
    by_cases h : j < gens.length
    · right
      obtain ⟨g0, g1⟩ := hg _ (List.getElem_mem h)
      obtain ⟨g, hge⟩ := Int.eq_ofNat_of_zero_le (show 0 ≤ gens[j] by omega)
      have hcnt : IntKind.wrap .u64 ((IntKind.wrap .u64 ((IntKind.wrap .u64 (f : Int)) + (IntKind.wrap .u64 (j : Int)))) + 1) = ((f + j + 1 : Nat) : Int) := by
        rw [wrap64u (n := (f : Int)) (by omega) (by omega), wrap64u (n := (j : Int)) (by omega) (by omega), wrap64u (n := (f : Int) + (j : Int)) (by omega) (by omega), wrap64u (by omega) (by omega)]
        omega
      have har : ∃ a : Nat, a ≤ 1 ∧ Int.tmod (IntKind.wrap .i64 ((j : Int) + (IntKind.wrap .i64 n))) 2 = (a : Int) := by
        rw [wrap64 (n := n) (by omega) (by omega), wrap64 (by omega) (by omega), Int.tmod_eq_emod_of_nonneg (by omega)]
        exact ⟨(((j : Int) + n) % 2).toNat, by omega, by omega⟩
      obtain ⟨a, ha, hae⟩ := har
      rw [if_pos (by simpa using h), idx_at h, Option.bind_some, hcnt, hae, hge]
      obtain ⟨d', e1, e2, e3⟩ := set_eq hd (g := g) (a := a) (by omega) (by omega) ha
      rw [e1, Option.bind_some]
      dsimp only
      rw [if_neg (by simp), e3, Option.bind_some]
      simp only [Bool.not_true, Bool.false_eq_true, if_false, beq_self_eq_true, Bool.and_self, Option.bind_some]
      rw [wnat4 (by omega)]
      exact ⟨_, rfl, ⟨j + 1, d', rfl, h, by rw [← Nat.add_assoc]; exact e2⟩, by simp only [Int.toNat_natCast]; omega⟩
    · left
      rw [if_neg (by simpa using h)]
      exact ⟨_, rfl, _, rfl⟩)
  rw [hr]
  obtain ⟨d, rfl⟩ := hp
  rfl
end Go.Proofs.Yteclchefihcjkaa.Am
