/- Slots on a disk: of those set one behind another the last one counts. -/
import Derived.Test.YteclchefihcjkaaL4b
import Derived.Test.YteclchefihcjkaaL4d
import Derived.Test.YteclchefihcjkaaK4
namespace Go.Proofs.Yteclchefihcjkaa.Am
open Go
set_option linter.unusedVariables false
set_option linter.unusedSimpArgs false
set_option maxRecDepth 100000

theorem pt_take (c g a : Nat) : (ptS c g a).take 8 = leB 8 c ∧ ((ptS c g a).drop 8).take 8 = leB 8 g ∧ ((ptS c g a).drop 16).take 8 = leB 8 a := by
  unfold ptS
  have h1 := leB_len 8 c
  have h2 := leB_len 8 g
  have h3 := leB_len 8 a
  generalize leB 8 c = x at *
  generalize leB 8 g = y at *
  generalize leB 8 a = z at *
  match x, h1, y, h2, z, h3 with
  | [a0, a1, a2, a3, a4, a5, a6, a7], _, [b0, b1, b2, b3, b4, b5, b6, b7], _, [c0, c1, c2, c3, c4, c5, c6, c7], _ => exact ⟨rfl, rfl, rfl⟩

/-- A slot that was put is read. -/
theorem read_pt {c g a : Nat} (hc : 0 < c) (hc2 : c < 18446744073709551616) (hg : g < 18446744073709551616) (ha : a ≤ 1) : slot_Read (ptS c g a) = some (⟨c, g, a⟩, true) := by
  have hl := ptS_len c g a
  have hb := ptS_byt c g a
  obtain ⟨t1, t2, t3⟩ := pt_take c g a
  have p : (256 : Nat) ^ 8 = 18446744073709551616 := by decide
  unfold slot_Read
  rw [if_neg (by simp; omega)]
  have s1 : slc (ptS c g a) 8 ((ptS c g a).length : Int) = some ((ptS c g a).drop 8) := by
    have := slc_nat (ptS c g a) (a := 8) (b := (ptS c g a).length) (by omega) (by omega)
    rw [List.take_length] at this; exact this
  have s2 : slc (ptS c g a) 16 ((ptS c g a).length : Int) = some ((ptS c g a).drop 16) := by
    have := slc_nat (ptS c g a) (a := 16) (b := (ptS c g a).length) (by omega) (by omega)
    rw [List.take_length] at this; exact this
  rw [s1, s2]
  simp only [Option.bind_some]
  rw [read8_eq (by rw [List.length_drop]; omega) (fun x h => hb x (List.mem_of_mem_drop h)), read8_eq (by omega) hb, read8_eq (by rw [List.length_drop]; omega) (fun x h => hb x (List.mem_of_mem_drop h)), t1, t2, t3, leV_leB 8 c (by omega), leV_leB 8 g (by omega), leV_leB 8 a (by omega)]
  simp only [Option.bind_some]
  have hm : minI (a : Int) 2 = a := by unfold minI; split <;> omega
  have hx : (maxI (a : Int) 0).toNat = a := by unfold maxI; split <;> omega
  rw [hm, wrap64 (n := (a : Int)) (by omega) (by omega), put4_eq c g a (by omega), hx]
  have e1 : decide ((c : Int) < 1) = false := by simp; omega
  have e3 : decide ((a : Int) > 1) = false := by simp; omega
  simp [e1, e3, bytes_Equal]
theorem read_Z : slot_Read Z64 = some (⟨0, 0, 0⟩, false) := by kernel_rfl

/-- What may stand in a sector: none, or a slot of at most such a count. -/
def Old (n : Nat) (b : List Int) : Prop := b = Z64 ∨ ∃ c g a : Nat, b = ptS c g a ∧ 0 < c ∧ c ≤ n ∧ g < 18446744073709551616 ∧ a ≤ 1
theorem Old.mono {n m : Nat} (h : n ≤ m) {b : List Int} (hb : Old n b) : Old m b := by
  rcases hb with h1 | ⟨c, g, a, h1, h2, h3, h4⟩
  · exact .inl h1
  · exact .inr ⟨c, g, a, h1, h2, by omega, h4⟩
theorem Old.read {n : Nat} (hn : n < 18446744073709551616) {b : List Int} (hb : Old n b) : ∃ s ok, slot_Read b = some (s, ok) ∧ (ok = true → s.Count ≤ n) := by
  rcases hb with rfl | ⟨c, g, a, rfl, h2, h3, h4, h5⟩
  · exact ⟨_, _, read_Z, fun h => by cases h⟩
  · exact ⟨_, _, read_pt h2 (by omega) h4 h5, fun _ => by simp only; omega⟩

structure DI (n : Nat) (d : Pdisk_Disk) : Prop where
  ok : DiskOk d
  n2 : d.n = 2
  pw : d.power = -1
  o0 : Old n (rdD d 0)
  o1 : Old n (rdD d 1)
theorem pad64 {b : List Int} (h : b.length = 64) : pad b = b := by unfold pad; rw [h]; simp

end Go.Proofs.Yteclchefihcjkaa.Am
