/- Slots: which slot any bytes begin with. -/
import Derived.Test.YteclchefihcjkaaL4a
namespace Go.Proofs.Yteclchefihcjkaa.Am
open Go
set_option linter.unusedVariables false
set_option linter.unusedSimpArgs false
set_option maxRecDepth 100000

theorem xor8s (a b : Int) : 0 ≤ Go.bits .xor .u8 a b ∧ Go.bits .xor .u8 a b < 256 := by
  simp only [Go.bits, IntKind.wrap_u8]; omega
theorem and64 (a b : Int) : 0 ≤ Go.bits .and .u64 a b ∧ Go.bits .and .u64 a b < 18446744073709551616 := by
  simp only [Go.bits, IntKind.wrap_u64]; omega
theorem andi64 (a b : Int) : -9223372036854775808 ≤ Go.bits .and .i64 a b ∧ Go.bits .and .i64 a b ≤ 9223372036854775807 := by
  simp only [Go.bits, IntKind.wrap_i64]; omega
theorem Byt.app {a b : List Int} (ha : Byt a) (hb : Byt b) : Byt (a ++ b) := fun x h => by
  rcases List.mem_append.1 h with h | h
  · exact ha x h
  · exact hb x h

theorem mod64 {n : Int} (h0 : 0 ≤ n) (h1 : n ≤ 65535) : ∃ k : Nat, k < 64 ∧ remI (IntKind.wrap .i64 n) 64 = some (k : Int) := by
  rw [wrap64 (by omega) (by omega)]
  unfold remI
  rw [if_neg (by decide), Int.tmod_eq_emod_of_nonneg h0]
  refine ⟨(n % 64).toNat, by omega, ?_⟩
  rw [Int.toNat_of_nonneg (by omega)]
theorem tells2_eq {a1 y m1 m2 m3 : List Int} (h1 : Byt a1) (h2 : Byt y) (h3 : Byt m1) (h4 : Byt m2) (h5 : Byt m3) : loopN (mementolaw4_SlotTells_L2 a1 y m1 m2 m3) fuel 0 = some (.go ()) := by
  have hall : ∀ z ∈ [y, m1, a1, m2, m3], Byt z := by
    intro z hz
    simp only [List.mem_cons, List.not_mem_nil, or_false] at hz
    rcases hz with rfl | rfl | rfl | rfl | rfl
    · exact h2
    · exact h3
    · exact h1
    · exact h4
    · exact h5
  rw [loop_eqF (s := 0) (fun s => ∃ j : Nat, s = (j : Int) ∧ j ≤ 5) (fun s => 5 - s.toNat) (fun _ => .go ()) ⟨0, rfl, by omega⟩ (by simp)]
  rintro _ ⟨j, rfl, hj⟩
  simp only [mementolaw4_SlotTells_L2]
  generalize hls : [y, m1, a1, m2, m3] = ls at *
  have ll : ls.length = 5 := by rw [← hls]; rfl
  by_cases h : j < 5
  · right
    obtain ⟨s, ok, e1, e2⟩ := same_read (hall _ (List.getElem_mem (show j < ls.length by omega)))
    rw [if_pos (by rw [ll]; simp; omega), idx_at (by omega), Option.bind_some, e1, Option.bind_some]
    dsimp only
    rw [e2, Option.bind_some]
    simp only [bne_self_eq_false, Bool.false_eq_true, if_false, mementolaw4_as, Option.bind_some, beq_self_eq_true, Bool.and_self, Bool.not_true]
    rw [wnat4 (by omega)]
    exact ⟨_, rfl, ⟨j + 1, rfl, h⟩, by omega, trivial⟩
  · left
    rw [if_neg (by rw [ll]; simp; omega)]
    rfl

def SOk (s : Slot_Slot) : Prop := (0 ≤ s.Count ∧ s.Count < 18446744073709551616) ∧ (0 ≤ s.Gen ∧ s.Gen < 18446744073709551616) ∧ -9223372036854775808 ≤ s.Area ∧ s.Area ≤ 9223372036854775807
theorem slotTells_eq {a0 : Slot_Slot} {a1 : List Int} {a2 a3 : Int} (h0 : SOk a0) (h1 : ∀ x ∈ a1, Ik .u8 x) (h2 : Ik .u16 a2) : mementolaw4_SlotTells a0 a1 a2 a3 = some true := by
  have a20 : 0 ≤ a2 := h2.1
  have a21 : a2 ≤ 65535 := h2.2
  have b1 : Byt a1 := fun x hx => (h1 x hx).u8
  unfold mementolaw4_SlotTells
  rw [known4, Option.bind_some, if_neg (by simp)]
  by_cases l0 : a1.length ≤ 70
  rotate_left
  · rw [if_pos (by simp; omega)]
  rw [if_neg (by simp; omega)]
  have hall : ∀ z ∈ [a0, (Slot_Slot.mk (Go.bits .and .u64 a0.Count 4095) (Go.bits .and .u64 a0.Gen 255) (Go.bits .and .i64 a0.Area 1))], SOk z := by
    intro z hz
    simp only [List.mem_cons, List.not_mem_nil, or_false] at hz
    rcases hz with rfl | rfl
    · exact h0
    · exact ⟨and64 _ _, and64 _ _, andi64 _ _⟩
  rw [loop_eqF (s := 0) (fun s => ∃ j : Nat, s = (j : Int) ∧ j ≤ 2) (fun s => 2 - s.toNat) (fun _ => .go ()) ⟨0, rfl, by omega⟩ (by simp)]
  · rfl
  rintro _ ⟨j, rfl, hj⟩
  simp only [mementolaw4_SlotTells_L1]
  generalize hls : [a0, (Slot_Slot.mk (Go.bits .and .u64 a0.Count 4095) (Go.bits .and .u64 a0.Gen 255) (Go.bits .and .i64 a0.Area 1))] = ls at *
  have ll : ls.length = 2 := by rw [← hls]; rfl
  by_cases h : j < 2
  · right
    obtain ⟨⟨c0, c1⟩, ⟨g0, g1⟩, r0, r1⟩ := hall _ (List.getElem_mem (show j < ls.length by omega))
    rw [if_pos (by rw [ll]; simp; omega), idx_at (by omega), Option.bind_some]
    generalize ls[j]'(by omega) = z at *
    obtain ⟨c, g, r⟩ := z
    dsimp only at c0 c1 g0 g1 r0 r1
    obtain ⟨c, rfl⟩ := Int.eq_ofNat_of_zero_le c0
    obtain ⟨g, rfl⟩ := Int.eq_ofNat_of_zero_le g0
    have e1 := put4_eq c g r (by omega)
    have e2 := wput4_eq c g r (by omega)
    have pl := ptS_len c g (maxI r 0).toNat
    have pb := ptS_byt c g (maxI r 0).toNat
    have ea : mementolaw4_as ⟨(c : Int), (g : Int), r⟩ = some ⟨(c : Int), (g : Int), r⟩ := rfl
    rw [e1, Option.bind_some, ea, Option.bind_some, e2, Option.bind_some]
    generalize ptS c g (maxI r 0).toNat = P at *
    have hk := mod64 a20 a21
    have pli : ((P.length : Nat) : Int) = 64 := by rw [pl]; rfl
    obtain ⟨k, hk, hr⟩ := hk
    rw [← pli] at hr
    have hne : (strOf P != strOf P) = false := by simp
    simp only [hne, Bool.false_eq_true, if_false]
    rw [app_of (x := ([] : List Int)) (y := P) (by simp only [List.length_nil]; omega) (by simp only [List.length_nil]; omega), Option.bind_some, List.nil_append, hr, Option.bind_some, idx_at (by omega), Option.bind_some, updL_nat (by omega), Option.bind_some, app_of (by omega) (by omega), Option.bind_some, Option.bind_some]
    have s1 : slc P 0 (k : Int) = some (P.take k) := slc_nat P (a := 0) (b := k) (by omega) (by omega)
    rw [s1, Option.bind_some, tells2_eq b1 pb _ (pb.app b1) (fun x h => pb x (List.mem_of_mem_take h)), kont_go', wnat4 (by omega)]
    · exact ⟨_, rfl, ⟨j + 1, rfl, h⟩, by omega, trivial⟩
    · intro x hx
      rcases List.mem_or_eq_of_mem_set hx with hx | rfl
      · exact pb x hx
      · exact xor8s _ _
  · left
    rw [if_neg (by rw [ll]; simp; omega)]
    rfl
end Go.Proofs.Yteclchefihcjkaa.Am
