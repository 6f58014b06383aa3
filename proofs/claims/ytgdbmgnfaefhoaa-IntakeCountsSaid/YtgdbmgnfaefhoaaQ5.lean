/- Part 5 of the proof: values, memory, walks or the plain law. -/
import Derived.Test.YtgdbmgnfaefhoaaQ4
namespace Go.Proofs.Ytgdbmgnfaefhoaa.Am
open Go
set_option linter.unusedVariables false
set_option linter.unusedSimpArgs false
set_option maxRecDepth 100000
theorem data_eq {size : Nat} {k : Int} (hs : size ≤ 100) : ∃ b, mementoseat_Data size k = some b ∧ b.length = size ∧ Byt b := by
  unfold mementoseat_Data
  obtain ⟨t, ht, h1, h2⟩ := loop_QF (b := mementoseat_Data_L1 size k) (s := (([] : List Int), (0 : Int))) (fun s => ∃ j : Nat, j ≤ size ∧ s.2 = (j : Int) ∧ s.1.length = j ∧ Byt s.1) (fun s => size - s.2.toNat) (fun t => t.length = size ∧ Byt t)
    ⟨0, by omega, rfl, rfl, fun x hx => by cases hx⟩ (by simp only; omega) (by
    rintro ⟨b, i⟩ ⟨j, hj, rfl, hl, hb⟩
    simp only at hl hb ⊢
    simp only [mementoseat_Data_L1]
    by_cases c : j < size
    · right
      rw [if_pos (by simpa using c), app_of (by simp; omega) (by simp; omega), Option.bind_some, next3 (by omega)]
      refine ⟨_, rfl, ⟨j + 1, c, rfl, by simp only [List.length_append, List.length_cons, List.length_nil]; omega, hb.app fun x hx => ?_⟩, by simp only [Int.toNat_natCast]; omega⟩
      simp only [List.mem_cons, List.not_mem_nil, or_false] at hx
      subst hx
      rw [IntKind.wrap_u8]
      omega
    · left
      rw [if_neg (by simpa using c)]
      exact ⟨_, rfl, by omega, hb⟩)
  rw [ht]
  exact ⟨t, rfl, h1, h2⟩
def SI (blocks size : Nat) (x : Api_Item) : Prop := 0 ≤ x.Block ∧ x.Block < blocks ∧ x.Data.length = size ∧ Byt x.Data
theorem seatItems {blocks size : Nat} {l : List Int} (hb : 1 ≤ blocks) (hb2 : blocks ≤ 256) (hs : size ≤ 32) (hl : l.length ≤ 8) (h8 : ∀ x ∈ l, 0 ≤ x ∧ x < 256) :
    ∃ out, mementoseat_Items blocks size l = some out ∧ out.length ≤ l.length ∧ ∀ x ∈ out, SI blocks size x := by
  unfold mementoseat_Items
  obtain ⟨t, ht, h1, h2⟩ := loop_QF (b := mementoseat_Items_L1 blocks size l) (s := (([] : List Api_Item), (0 : Int))) (fun s => ∃ j : Nat, j ≤ l.length ∧ s.2 = (j : Int) ∧ s.1.length ≤ j ∧ ∀ x ∈ s.1, SI blocks size x) (fun s => l.length - s.2.toNat) (fun t => t.length ≤ l.length ∧ ∀ x ∈ t, SI blocks size x)
    ⟨0, by omega, rfl, Nat.le_refl _, fun x hx => by cases hx⟩ (by simp only; omega) (by
    rintro ⟨out, i⟩ ⟨j, hj, rfl, ho, hx⟩
    simp only at ho hx ⊢
    simp only [mementoseat_Items_L1]
    by_cases c : j < l.length
    rotate_left
    · left
      rw [if_neg (by simpa using c), Option.bind_some, if_neg (by simp)]
      exact ⟨_, rfl, by omega, hx⟩
    rw [if_pos (by simpa using c), Option.bind_some]
    by_cases c2 : (out.length : Int) < 8
    rotate_left
    · left
      rw [decide_eq_false c2, if_neg (by simp)]
      exact ⟨_, rfl, by omega, hx⟩
    right
    obtain ⟨y0, y1⟩ := h8 _ (List.getElem_mem c)
    have hm : maxI (blocks : Int) 1 = blocks := by unfold maxI; split <;> omega
    have hr : ∃ r : Nat, r < blocks ∧ remI (IntKind.wrap .i64 l[j]) (maxI (blocks : Int) 1) = some (r : Int) := by
      rw [hm, wrap64 (by omega) (by omega)]
      unfold remI
      have q1 := Int.tmod_lt_of_pos l[j] (show (0 : Int) < blocks by omega)
      have q2 := Int.tmod_nonneg (blocks : Int) y0
      rw [if_neg (by omega)]
      exact ⟨(Int.tmod l[j] blocks).toNat, by omega, by rw [Int.toNat_of_nonneg q2]⟩
    obtain ⟨r, hr1, hr2⟩ := hr
    obtain ⟨b, hbt, _⟩ := loop_QF (b := mementoseat_Items_L2 out r) (s := (false, (0 : Int))) (fun s => ∃ k : Nat, k ≤ out.length ∧ s.2 = (k : Int)) (fun s => out.length - s.2.toNat) (fun _ => True) ⟨0, by omega, rfl⟩ (by simp only; omega) (by
      rintro ⟨t, _⟩ ⟨k, hk, rfl⟩
      simp only [mementoseat_Items_L2]
      by_cases c3 : k < out.length
      · right
        have e : ∃ t', (if t then some true else ((idx out (k : Int)).bind fun x61 => some (x61.Block == (r : Int)))) = some t' := by
          cases t
          · rw [if_neg (by simp), idx_at c3]; exact ⟨_, rfl⟩
          · exact ⟨true, rfl⟩
        obtain ⟨t', e⟩ := e
        rw [if_pos (by simpa using c3), e, Option.bind_some, next3 (by omega)]
        exact ⟨_, rfl, ⟨k + 1, c3, rfl⟩, by simp only [Int.toNat_natCast]; omega⟩
      · left
        rw [if_neg (by simpa using c3)]
        exact ⟨_, rfl, trivial⟩)
    obtain ⟨d, hd1, hd2, hd3⟩ := data_eq (size := size) (k := l[j]) (by omega)
    rw [decide_eq_true c2, if_pos rfl, idx_at c, Option.bind_some, hr2, Option.bind_some, hbt, Option.bind_some, hd1, Option.bind_some, app_of (by simp; omega) (by simp; omega), Option.bind_some, next3 (by omega)]
    cases b
    · rw [if_pos (by simp), Option.bind_some]
      refine ⟨_, rfl, ⟨j + 1, c, rfl, by simp only [List.length_append, List.length_cons, List.length_nil]; omega, fun x hx2 => ?_⟩, by simp only [Int.toNat_natCast]; omega⟩
      rcases List.mem_append.1 hx2 with q | q
      · exact hx x q
      · simp only [List.mem_cons, List.not_mem_nil, or_false] at q
        subst q
        exact ⟨by simp only; omega, by simp only; omega, hd2, hd3⟩
    · rw [if_neg (by simp), Option.bind_some]
      exact ⟨_, rfl, ⟨j + 1, c, rfl, by simp only; omega, hx⟩, by simp only [Int.toNat_natCast]; omega⟩)
  rw [ht]
  exact ⟨t, rfl, h1, h2⟩
theorem chunks_eq {b p : Nat} (hb : 1 ≤ b) (hb2 : b ≤ 300) (hp : 1 ≤ p) (hp2 : p ≤ 300) : mementoref16_Chunks b p = some (((b + p - 1) / p : Nat) : Int) := by
  unfold mementoref16_Chunks quoI
  rw [if_neg (by omega), wrap64 (n := (b : Int) + p) (by omega) (by omega), wrap64 (n := (b : Int) + p - 1) (by omega) (by omega), Option.bind_some]
  rw [show (b : Int) + p - 1 = ((b + p - 1 : Nat) : Int) by omega, Int.tdiv_eq_ediv_of_nonneg (by omega)]
  have : (((b + p - 1 : Nat) : Int) / (p : Int)) = (((b + p - 1) / p : Nat) : Int) := (Int.natCast_ediv _ _).symm
  rw [this]
  have h2 : (b + p - 1) / p ≤ b + p - 1 := Nat.div_le_self _ _
  generalize (b + p - 1) / p = q at h2 ⊢
  rw [wrap64 (by omega) (by omega)]
structure NewC (total : Int) (c : Api_VolCmd) : Prop where
  kind : c.Kind = 1
  vol : c.Vol = 0
  blocks : 1 ≤ c.Blocks ∧ c.Blocks ≤ 9
  size : 1 ≤ c.Size ∧ c.Size ≤ 3
  per : 1 ≤ c.Per ∧ c.Per ≤ c.Blocks
  total : c.Total = total
  at_ : c.At = 0
  index : c.Index = 0
  place : c.Place.length ≤ 20 ∧ ∀ x ∈ c.Place, 1 ≤ x ∧ x ≤ 2
  items : c.Items = []
theorem create_eq {b s p total : Int} (hb : 0 ≤ b ∧ b < 256) (hs : 0 ≤ s ∧ s < 256) (hp : 0 ≤ p ∧ p < 256) : ∃ c, mementoseat_Create 0 b s p total = some c ∧ NewC total c := by
  have t9 := Int.tmod_lt_of_pos b (show (0 : Int) < 9 by omega)
  have t9' := Int.tmod_nonneg 9 hb.1
  have t3 := Int.tmod_lt_of_pos s (show (0 : Int) < 3 by omega)
  have t3' := Int.tmod_nonneg 3 hs.1
  unfold mementoseat_Create
  obtain ⟨B, hB1, hB2, eB⟩ : ∃ B : Nat, 1 ≤ B ∧ B ≤ 9 ∧ IntKind.wrap .i64 ((IntKind.wrap .i64 (Int.tmod b 9)) + 1) = (B : Int) := by
    rw [wrap64 (n := Int.tmod b 9) (by omega) (by omega), wrap64 (by omega) (by omega)]
    exact ⟨(Int.tmod b 9 + 1).toNat, by omega, by omega, by rw [Int.toNat_of_nonneg (by omega)]⟩
  rw [eB]
  obtain ⟨x, hx, ex⟩ : ∃ x : Nat, x < B ∧ remI (IntKind.wrap .i64 p) (B : Int) = some (x : Int) := by
    rw [wrap64 (by omega) (by omega)]
    unfold remI
    have q1 := Int.tmod_lt_of_pos p (show (0 : Int) < B by omega)
    have q2 := Int.tmod_nonneg (B : Int) hp.1
    rw [if_neg (by omega)]
    exact ⟨(Int.tmod p B).toNat, by omega, by rw [Int.toNat_of_nonneg q2]⟩
  rw [ex, Option.bind_some]
  have eP : IntKind.wrap .i64 ((x : Int) + 1) = ((x + 1 : Nat) : Int) := next3 (by omega)
  obtain ⟨N, hN, hch⟩ : ∃ N : Nat, N ≤ 20 ∧ mementoref16_Chunks (B : Int) ((x + 1 : Nat) : Int) = some (N : Int) := by
    have hle : (B + (x + 1) - 1) / (x + 1) ≤ B + (x + 1) - 1 := Nat.div_le_self _ _
    exact ⟨_, by omega, chunks_eq hB1 (by omega) (by omega) (by omega)⟩
  obtain ⟨t, ht, h1, h2⟩ := loop_QF (b := mementoseat_Create_L1 b p (x : Int)) (s := ((0 : Int), ([] : List Int))) (fun s => ∃ j : Nat, j ≤ N ∧ s.1 = (j : Int) ∧ s.2.length = j ∧ ∀ y ∈ s.2, 1 ≤ y ∧ y ≤ 2) (fun s => N - s.1.toNat) (fun t => t.length ≤ 20 ∧ ∀ y ∈ t, 1 ≤ y ∧ y ≤ 2)
    ⟨0, by omega, rfl, rfl, fun y hy => by cases hy⟩ (by simp only; omega) (by
    rintro ⟨i, l⟩ ⟨j, hj, rfl, hl, hy⟩
    simp only at hl hy ⊢
    simp only [mementoseat_Create_L1]
    rw [eB, eP, hch, Option.bind_some]
    by_cases c : j < N
    · right
      rw [if_pos (by simpa using c), app_of (by simp; omega) (by simp; omega), Option.bind_some, next3 (by omega)]
      refine ⟨_, rfl, ⟨j + 1, c, rfl, by simp only [List.length_append, List.length_cons, List.length_nil]; omega, fun y hy2 => ?_⟩, by simp only [Int.toNat_natCast]; omega⟩
      rcases List.mem_append.1 hy2 with q | q
      · exact hy y q
      · simp only [List.mem_cons, List.not_mem_nil, or_false] at q
        rw [wrap64 (n := p) (by omega) (by omega), wrap64 (n := (j : Int) + p) (by omega) (by omega)] at q
        have q1 := Int.tmod_lt_of_pos ((j : Int) + p) (show (0 : Int) < 2 by omega)
        have q2 := Int.tmod_nonneg 2 (show 0 ≤ (j : Int) + p by omega)
        rw [wrap64 (by omega) (by omega)] at q
        omega
    · left
      rw [if_neg (by simpa using c)]
      exact ⟨_, rfl, by omega, hy⟩)
  rw [ht, Option.bind_some]
  refine ⟨_, rfl, rfl, ?_, by simp only; omega, ?_, by simp only; rw [eP]; omega, rfl, rfl, rfl, ⟨h1, h2⟩, rfl⟩
  · simp only
    rw [wrap64 (by decide) (by decide)]
    rfl
  · simp only
    rw [wrap64 (n := Int.tmod s 3) (by omega) (by omega), wrap64 (by omega) (by omega)]
    omega
theorem NewC.cmdR {total : Int} {c : Api_VolCmd} (h : NewC total c) (ht : 0 ≤ total ∧ total ≤ 100) : CmdR c := by
  obtain ⟨k, v, b, s, p, t, a, i, pl, it⟩ := h
  exact ⟨by omega, by omega, by omega, by omega, by omega, by omega, by omega, by omega, by have := pl.1; omega, fun x hx => by have := pl.2 x hx; omega, by rw [it]; simp, fun x hx => by rw [it] at hx; cases hx⟩
structure VInv (n : Nat) (v : Api_Volume) : Prop where
  id : v.Id = 0
  blocks : 1 ≤ v.Blocks ∧ v.Blocks ≤ 9
  size : 1 ≤ v.Size ∧ v.Size ≤ 3
  next : 0 ≤ v.Next ∧ v.Next ≤ n
  pins : v.Pins.length ≤ n
  writes : v.Writes.length ≤ n
  items : ∀ w ∈ v.Writes, 1 ≤ w.Items.length ∧ w.Items.length ≤ 8 ∧ ∀ x ∈ w.Items, 0 ≤ x.Block ∧ x.Block < v.Blocks ∧ (x.Data.length : Int) = v.Size ∧ Byt x.Data
theorem VInv.mono {n m : Nat} {v : Api_Volume} (h : VInv n v) (hm : n ≤ m) : VInv m v :=
  ⟨h.id, h.blocks, h.size, by have := h.next; omega, by have := h.pins; omega, by have := h.writes; omega, h.items⟩
theorem own_eq {l : List Api_Item} (hl : l.length ≤ 1000) (h : ∀ x ∈ l, x.Data.length ≤ 1000) : mementoref16_own l = some l := by
  unfold mementoref16_own
  rw [loop_eqF (s := (([] : List Api_Item), (0 : Int))) (fun s => ∃ k : Nat, k ≤ l.length ∧ s = (l.take k, (k : Int))) (fun s => l.length - s.2.toNat) (fun _ => l) ⟨0, by omega, rfl⟩ (by simp only; omega)]
  · rfl
  rintro _ ⟨k, hk, rfl⟩
  simp only [mementoref16_own_L1]
  by_cases c : k < l.length
  · right
    have hd := h _ (List.getElem_mem c)
    rw [if_pos (by simpa using c), idx_at c, Option.bind_some, app_of (by simp; omega) (by simp; omega), Option.bind_some, app_of (by simp; omega) (by simp; omega), Option.bind_some, next3 (by omega), List.nil_append]
    exact ⟨_, rfl, ⟨k + 1, c, by rw [List.take_succ_eq_append_getElem c]⟩, by simp only [Int.toNat_natCast]; omega, by first | rfl | trivial⟩
  · left
    have : k = l.length := by omega
    subst this
    rw [if_neg (by simp), List.take_length]; rfl
theorem write_eq {v : Api_Volume} {l : List Api_Item} (hv : v.Writes.length ≤ 1000) (hl : l.length ≤ 1000) (h : ∀ x ∈ l, x.Data.length ≤ 1000) :
    mementoref16_write v l = some ⟨v.Id, v.Blocks, v.Size, v.Per, v.Place, v.Total, v.Next, v.Hidden, v.Floor, v.Pins, v.Writes ++ [⟨(v.Writes.length : Int) + 1, l⟩]⟩ := by
  unfold mementoref16_write mementoref16_Len
  rw [app_of (by simp; omega) (by simp; omega), Option.bind_some, Option.bind_some, own_eq hl h, Option.bind_some, app_of (by simp; omega) (by simp; omega), Option.bind_some, wrap64 (by omega) (by omega), List.nil_append]
theorem itemsRight_ok {blocks size : Int} {l : List Api_Item} (hl : l.length ≤ 1000) : ∃ b, mementoref13_ItemsRight blocks size l = some b ∧ (b = true → 1 ≤ l.length ∧ l.length ≤ 8 ∧ ∀ x ∈ l, 0 ≤ x.Block ∧ x.Block < blocks ∧ (x.Data.length : Int) = size) := by
  unfold mementoref13_ItemsRight
  by_cases c1 : (l.length : Int) < 1
  · rw [if_pos (by simpa using c1), Option.bind_some, if_pos rfl]
    exact ⟨false, rfl, fun h => by cases h⟩
  rw [if_neg (by simpa using c1), Option.bind_some]
  by_cases c2 : (l.length : Int) > 8
  · rw [decide_eq_true c2, if_pos rfl]
    exact ⟨false, rfl, fun h => by cases h⟩
  rw [decide_eq_false c2, if_neg (by simp)]
  obtain ⟨t, ht, hq⟩ := loop_QF (b := mementoref13_ItemsRight_L1 blocks size l) (s := (0 : Int)) (fun s => ∃ k : Nat, k ≤ l.length ∧ s = (k : Int) ∧ ∀ x ∈ l.take k, 0 ≤ x.Block ∧ x.Block < blocks ∧ (x.Data.length : Int) = size) (fun s => l.length - s.toNat) (fun t => t = .ret false ∨ t = .go () ∧ ∀ x ∈ l, 0 ≤ x.Block ∧ x.Block < blocks ∧ (x.Data.length : Int) = size)
    ⟨0, by omega, rfl, fun x hx => by cases hx⟩ (by simp; omega) (by
    rintro _ ⟨k, hk, rfl, hx⟩
    simp only [mementoref13_ItemsRight_L1]
    by_cases c : k < l.length
    rotate_left
    · left
      have : k = l.length := by omega
      subst this
      rw [List.take_length] at hx
      rw [if_neg (by simp)]
      exact ⟨_, rfl, .inr ⟨rfl, hx⟩⟩
    rw [if_pos (by simpa using c), idx_at c, Option.bind_some]
    by_cases d1 : l[k].Block < 0
    · left
      rw [if_pos (by simpa using d1), Option.bind_some, if_pos rfl]
      exact ⟨_, rfl, .inl rfl⟩
    rw [if_neg (by simpa using d1)]
    by_cases d2 : l[k].Block ≥ blocks
    · left
      rw [if_pos (by simpa using d2), Option.bind_some, if_pos rfl]
      exact ⟨_, rfl, .inl rfl⟩
    rw [if_neg (by simpa using d2), Option.bind_some]
    by_cases d3 : (l[k].Data.length : Int) = size
    rotate_left
    · left
      rw [if_pos (by simpa using d3)]
      exact ⟨_, rfl, .inl rfl⟩
    rw [if_neg (by simpa using d3)]
    obtain ⟨t, ht, hq⟩ := loop_QF (b := mementoref13_ItemsRight_L2 l (k : Int)) (s := (0 : Int)) (fun s => ∃ j : Nat, j ≤ k ∧ s = (j : Int)) (fun s => k - s.toNat) (fun t => t = .ret (.ret (.ret false)) ∨ t = .go ()) ⟨0, by omega, rfl⟩ (by simp; omega) (by
      rintro _ ⟨j, hj, rfl⟩
      simp only [mementoref13_ItemsRight_L2]
      by_cases e : j < k
      · rw [if_pos (by simpa using e), idx_at (by omega), Option.bind_some, idx_at c, Option.bind_some]
        by_cases e2 : l[j].Block = l[k].Block
        · left
          rw [if_pos (by simpa using e2)]
          exact ⟨_, rfl, .inl rfl⟩
        · right
          rw [if_neg (by simpa using e2), next3 (by omega)]
          exact ⟨_, rfl, ⟨j + 1, e, rfl⟩, by simp only [Int.toNat_natCast]; omega⟩
      · left
        rw [if_neg (by simpa using e)]
        exact ⟨_, rfl, .inr rfl⟩)
    rw [ht]
    rcases hq with rfl | rfl
    · left
      exact ⟨_, rfl, .inl rfl⟩
    · right
      rw [kont_go', next3 (by omega)]
      refine ⟨_, rfl, ⟨k + 1, c, rfl, fun x hx2 => ?_⟩, by simp only [Int.toNat_natCast]; omega⟩
      rw [List.take_succ_eq_append_getElem c] at hx2
      rcases List.mem_append.1 hx2 with q | q
      · exact hx x q
      · simp only [List.mem_cons, List.not_mem_nil, or_false] at q
        subst q
        exact ⟨by omega, by omega, d3⟩)
  rw [ht]
  rcases hq with rfl | ⟨rfl, hx⟩
  · exact ⟨false, rfl, fun h => by cases h⟩
  · exact ⟨true, rfl, fun _ => ⟨by omega, by omega, hx⟩⟩
end Go.Proofs.Ytgdbmgnfaefhoaa.Am
namespace Go.Proofs.Ytgdbmgnfaefhoaa.Am
open Go
set_option linter.unusedVariables false
set_option linter.unusedSimpArgs false
set_option maxRecDepth 100000
theorem SI.itR {b s : Nat} (hb : b ≤ 256) (hs : s ≤ 32) {x : Api_Item} (h : SI b s x) : ItR x := ⟨⟨h.1, by have := h.2.1; omega⟩, by have := h.2.2.1; omega, h.2.2.2⟩
theorem cmd_there {n : Nat} {v : Api_Volume} (hv : VInv n v) (hn : n ≤ 1000) {a b c d : Int} (ha : 0 ≤ a ∧ a < 256) (hb : 0 ≤ b ∧ b < 256) (hc : 0 ≤ c ∧ c < 256) (hd : 0 ≤ d ∧ d < 256) :
    ∃ x, mementoseat_Cmd v true a b c d = some x ∧ CmdR x ∧ x.Vol = 0 ∧ x.Kind ≠ 1 := by
  obtain ⟨B, hB⟩ := Int.eq_ofNat_of_zero_le (show 0 ≤ v.Blocks by have := hv.blocks; omega)
  obtain ⟨S, hS⟩ := Int.eq_ofNat_of_zero_le (show 0 ≤ v.Size by have := hv.size; omega)
  have hB1 := hv.blocks
  have hS1 := hv.size
  have hw := hv.writes
  have hnx := hv.next
  obtain ⟨l2, e2, k2, i2⟩ := seatItems (blocks := B) (size := S) (l := [b, c]) (by omega) (by omega) (by omega) (by simp) (fun x hx => by simp at hx; omega)
  obtain ⟨l3, e3, k3, i3⟩ := seatItems (blocks := B) (size := S) (l := [b, c, d]) (by omega) (by omega) (by omega) (by simp) (fun x hx => by simp at hx; omega)
  simp only [List.length_cons, List.length_nil] at k2 k3
  have r2 : ∀ x ∈ l2, ItR x := fun x hx => (i2 x hx).itR (by omega) (by omega)
  have r3 : ∀ x ∈ l3, ItR x := fun x hx => (i3 x hx).itR (by omega) (by omega)
  rw [← hB, ← hS] at e2 e3
  obtain ⟨t, ht1, ht2⟩ : ∃ t : Nat, t ≤ 2000 ∧ remI (IntKind.wrap .i64 b) (IntKind.wrap .i64 ((v.Writes.length : Int) + 2)) = some (t : Int) := by
    rw [wrap64 (n := b) (by omega) (by omega), wrap64 (by omega) (by omega)]
    unfold remI
    have q1 := Int.tmod_lt_of_pos b (show (0 : Int) < (v.Writes.length : Int) + 2 by omega)
    have q2 := Int.tmod_nonneg ((v.Writes.length : Int) + 2) hb.1
    rw [if_neg (by omega)]
    exact ⟨(Int.tmod b ((v.Writes.length : Int) + 2)).toNat, by omega, by rw [Int.toNat_of_nonneg q2]⟩
  obtain ⟨ix, hi1, hi2⟩ : ∃ ix : Int, (0 ≤ ix ∧ ix ≤ 2000) ∧ maxI (IntKind.wrap .i64 (v.Next - (IntKind.wrap .i64 (Int.tdiv (IntKind.wrap .i64 (Int.tmod d 5)) 4)))) 0 = ix := by
    refine ⟨_, ?_, rfl⟩
    have t1 := Int.tmod_lt_of_pos d (show (0 : Int) < 5 by omega)
    have t0 := Int.tmod_nonneg 5 hd.1
    rw [wrap64 (n := Int.tmod d 5) (by omega) (by omega), Int.tdiv_eq_ediv_of_nonneg t0, wrap64 (n := Int.tmod d 5 / 4) (by omega) (by omega), wrap64 (by omega) (by omega)]
    unfold maxI
    split <;> omega
  unfold mementoseat_Cmd mementoref16_Len
  rw [if_neg (by simp), e2, e3]
  simp only [Option.bind_some, ht2, hi2]
  have key : ∀ (k at_ i : Int) (l : List Api_Item), 2 ≤ k ∧ k ≤ 8 → 0 ≤ at_ ∧ at_ ≤ 2000 → 0 ≤ i ∧ i ≤ 2000 → l.length ≤ 8 → (∀ x ∈ l, ItR x) →
      ∃ x, ((if v.Hidden then (some (decide ((Int.tmod a 10) < 5))) else (some false)).bind fun t115 => ((if t115 then ((some l3).bind fun y146 => (some (6, 0, v.Next, y146))) else (some (k, at_, i, l))).bind fun (me17_Kind134, me17_At135, me17_Index136, me17_Items137) => (some (Api_VolCmd.mk me17_Kind134 v.Id 0 0 0 ([] : (List Int)) 0 me17_At135 me17_Index136 me17_Items137)))) = some x ∧ CmdR x ∧ x.Vol = 0 ∧ x.Kind ≠ 1 := fun k at_ i l hk hat hi hl hr => by
    have mk : ∀ (k at_ i : Int) (l : List Api_Item), 2 ≤ k ∧ k ≤ 8 → 0 ≤ at_ ∧ at_ ≤ 2000 → 0 ≤ i ∧ i ≤ 2000 → l.length ≤ 8 → (∀ x ∈ l, ItR x) → CmdR (Api_VolCmd.mk k v.Id 0 0 0 [] 0 at_ i l) := fun k at_ i l hk hat hi hl hr =>
      ⟨by simp only; omega, by simp only; rw [hv.id]; omega, by simp only; omega, by simp only; omega, by simp only; omega, by simp only; omega, by simp only; omega, by simp only; omega, by simp, (fun x hx => by cases hx), hl, hr⟩
    have fin : ∀ b : Bool, ∃ x, ((if b then ((some l3).bind fun y146 => (some (6, 0, v.Next, y146))) else (some (k, at_, i, l))).bind fun (me17_Kind134, me17_At135, me17_Index136, me17_Items137) => (some (Api_VolCmd.mk me17_Kind134 v.Id 0 0 0 ([] : (List Int)) 0 me17_At135 me17_Index136 me17_Items137))) = some x ∧ CmdR x ∧ x.Vol = 0 ∧ x.Kind ≠ 1 := fun b => by
      cases b
      · exact ⟨_, rfl, mk _ _ _ _ hk hat hi hl hr, hv.id, by simp only; omega⟩
      · exact ⟨_, rfl, mk _ _ _ _ (by omega) (by omega) ⟨hnx.1, by omega⟩ (by omega) r3, hv.id, by simp only; omega⟩
    by_cases hh : v.Hidden = true
    · rw [if_pos hh, Option.bind_some]; exact fin _
    · rw [if_neg hh, Option.bind_some]; exact fin _
  have k0 := fun (k at_ i : Int) (hk : 2 ≤ k ∧ k ≤ 8) (hat : 0 ≤ at_ ∧ at_ ≤ 2000) (hi : 0 ≤ i ∧ i ≤ 2000) => key k at_ i [] hk hat hi (by simp) (fun x hx => by cases hx)
  have kput := key 2 0 0 l3 (by omega) (by omega) (by omega) (by omega) r3
  by_cases c0 : Int.tmod a 10 = 0
  · simp only [c0, Int.reduceBEq, if_true, Option.bind_some] at kput ⊢
    exact kput
  by_cases c1 : Int.tmod a 10 = 1
  · simp only [c1, Int.reduceBEq, if_true, if_false, Bool.false_eq_true, Option.bind_some] at kput ⊢
    exact kput
  by_cases c2 : Int.tmod a 10 = 2
  · simp only [c2, Int.reduceBEq, if_true, if_false, Bool.false_eq_true, Option.bind_some] at kput ⊢
    exact kput
  by_cases c3 : Int.tmod a 10 = 3
  · simp only [c3, Int.reduceBEq, if_true, if_false, Bool.false_eq_true, Option.bind_some] at kput ⊢
    exact kput
  rw [if_neg (by simpa using c0), if_neg (by simpa using c1), if_neg (by simpa using c2), Option.bind_some, if_neg (by simpa using c3)]
  by_cases c4 : Int.tmod a 10 = 4
  · rw [if_pos (by simpa using c4), Option.bind_some]
    exact k0 3 t 0 (by omega) (by omega) (by omega)
  rw [if_neg (by simpa using c4)]
  by_cases c5 : Int.tmod a 10 = 5
  · rw [if_pos (by simpa using c5), Option.bind_some]
    exact k0 4 t 0 (by omega) (by omega) (by omega)
  rw [if_neg (by simpa using c5)]
  by_cases c6 : Int.tmod a 10 = 6
  · rw [if_pos (by simpa using c6), Option.bind_some]
    exact k0 5 t 0 (by omega) (by omega) (by omega)
  rw [if_neg (by simpa using c6)]
  by_cases c7 : Int.tmod a 10 = 7
  · rw [if_pos (by simpa using c7), Option.bind_some]
    exact k0 8 0 0 (by omega) (by omega) (by omega)
  rw [if_neg (by simpa using c7)]
  by_cases c8 : Int.tmod a 10 = 8
  · rw [if_pos (by simpa using c8), Option.bind_some]
    exact key 6 0 ix l2 (by omega) (by omega) hi1 (by omega) r2
  · rw [if_neg (by simpa using c8), Option.bind_some]
    exact k0 7 0 0 (by omega) (by omega) (by omega)
theorem cmd_new {v : Api_Volume} (hv : v.Id = 0) {a b c d : Int} (hb : 0 ≤ b ∧ b < 256) (hc : 0 ≤ c ∧ c < 256) (hd : 0 ≤ d ∧ d < 256) :
    ∃ x t, mementoseat_Cmd v false a b c d = some x ∧ NewC t x ∧ 0 ≤ t ∧ t ≤ 3 := by
  unfold mementoseat_Cmd
  rw [if_pos (by simp), hv]
  obtain ⟨t, ht, h0, h1⟩ : ∃ t : Int, (if ((Int.tmod d 4) == 0) then (some (IntKind.wrap .i64 ((IntKind.wrap .i64 (Int.tmod (IntKind.wrap .u8 (Int.tdiv d 4)) 3)) + 1))) else (some 0)) = some t ∧ 0 ≤ t ∧ t ≤ 3 := by
    split
    · refine ⟨_, rfl, ?_⟩
      rw [IntKind.wrap_u8]
      have q0 : 0 ≤ Int.tdiv d 4 % 256 := by omega
      have q1 := Int.tmod_lt_of_pos (Int.tdiv d 4 % 256) (show (0 : Int) < 3 by omega)
      have q2 := Int.tmod_nonneg 3 q0
      rw [wrap64 (n := Int.tmod _ 3) (by omega) (by omega), wrap64 (by omega) (by omega)]
      omega
    · exact ⟨0, rfl, by omega, by omega⟩
  obtain ⟨x, hx, hx2⟩ := create_eq (b := b) (s := c) (p := d) (total := t) hb hc hd
  rw [ht, Option.bind_some, show IntKind.wrap .u8 (0 : Int) = 0 by rw [IntKind.wrap_u8]; rfl, hx]
  exact ⟨x, t, rfl, hx2, h0, h1⟩
theorem low_ok {v : Api_Volume} (hp : v.Pins.length ≤ 1000) : ∃ n, mementoref16_Low v = some n := by
  unfold mementoref16_Low mementoref16_Len
  obtain ⟨t, ht, _⟩ := loop_QF (b := mementoref16_Low_L1 v) (s := ((v.Writes.length : Int), (0 : Int))) (fun s => ∃ k : Nat, k ≤ v.Pins.length ∧ s.2 = (k : Int)) (fun s => v.Pins.length - s.2.toNat) (fun _ => True) ⟨0, by omega, rfl⟩ (by simp only; omega) (by
    rintro ⟨n, _⟩ ⟨k, hk, rfl⟩
    simp only [mementoref16_Low_L1]
    by_cases c : k < v.Pins.length
    · right
      rw [if_pos (by simpa using c), idx_at c, Option.bind_some, next3 (by omega)]
      exact ⟨_, rfl, ⟨k + 1, c, rfl⟩, by simp only [Int.toNat_natCast]; omega⟩
    · left
      rw [if_neg (by simpa using c)]
      exact ⟨_, rfl, trivial⟩)
  rw [Option.bind_some, ht]
  exact ⟨t, rfl⟩
theorem slc_all {α : Type} (l : List α) {k : Nat} (h : k ≤ l.length) : slc l 0 (k : Int) = some (l.take k) ∧ slc l (k : Int) (l.length : Int) = some (l.drop k) := by
  have z0 : ((0 : Nat) : Int) = 0 := rfl
  refine ⟨by rw [← z0, slc_nat l (Nat.zero_le _) h, List.drop_zero], by rw [slc_nat l h (Nat.le_refl _), List.take_length]⟩
theorem done_ok {n : Nat} {v : Api_Volume} {c : Api_VolCmd} (hv : VInv n v) (hn : n ≤ 500) (hc : CmdR c) : ∃ v' e, mementoref16_done v c = some (v', e) ∧ VInv (n + 1) v' := by
  have hm := hv.mono (show n ≤ n + 1 by omega)
  have hp := hv.pins
  have hw := hv.writes
  have hnx := hv.next
  obtain ⟨b, hb1, hb2⟩ := itemsRight_ok (blocks := v.Blocks) (size := v.Size) (l := c.Items) (by have := hc.itemsLen; omega)
  have hwr := write_eq (v := v) (l := c.Items) (by omega) (by have := hc.itemsLen; omega) (fun x hx => by have := (hc.items x hx).2.1; omega)
  have wok : b = true → VInv (n + 1) ⟨v.Id, v.Blocks, v.Size, v.Per, v.Place, v.Total, v.Next, v.Hidden, v.Floor, v.Pins, v.Writes ++ [⟨(v.Writes.length : Int) + 1, c.Items⟩]⟩ := fun hb => by
    obtain ⟨h1, h2, h3⟩ := hb2 hb
    refine ⟨hv.id, hv.blocks, hv.size, by simp only; omega, by simp only; omega, by simp only [List.length_append, List.length_cons, List.length_nil]; omega, fun w hw => ?_⟩
    rcases List.mem_append.1 hw with q | q
    · exact hv.items w q
    · simp only [List.mem_cons, List.not_mem_nil, or_false] at q
      subst q
      exact ⟨h1, h2, fun x hx => ⟨(h3 x hx).1, (h3 x hx).2.1, (h3 x hx).2.2, (hc.items x hx).2.2⟩⟩
  obtain ⟨lo, hlo⟩ := low_ok (v := v) (by omega)
  have hk := hc.kind
  unfold mementoref16_done
  rw [hb1, hwr, hlo]
  simp only [Option.bind_some]
  rcases (show c.Kind = 1 ∨ c.Kind = 2 ∨ c.Kind = 3 ∨ c.Kind = 4 ∨ c.Kind = 5 ∨ c.Kind = 6 ∨ c.Kind = 7 ∨ c.Kind = 8 by omega) with hk | hk | hk | hk | hk | hk | hk | hk
  · simp only [hk, Int.reduceBEq, if_true, if_false, Bool.false_eq_true, Option.bind_some, kont_go']
    exact ⟨_, _, rfl, hm⟩
  · simp only [hk, Int.reduceBEq, if_true, if_false, Bool.false_eq_true, Option.bind_some]
    by_cases hh : v.Hidden = true
    rotate_left
    · rw [if_neg hh, kont_go']
      cases b
      · exact ⟨_, _, rfl, hm⟩
      · exact ⟨_, _, rfl, wok rfl⟩
    · rw [if_pos hh]; exact ⟨_, _, rfl, hm⟩
  · simp only [hk, Int.reduceBEq, if_true, if_false, Bool.false_eq_true, Option.bind_some]
    by_cases hh : v.Hidden = true
    rotate_left
    · rw [if_neg hh, kont_go']
      split
      · exact ⟨_, _, rfl, hm⟩
      · split
        · exact ⟨_, _, rfl, hm⟩
        · exact ⟨_, _, rfl, hm.id, hm.blocks, hm.size, hm.next, hm.pins, hm.writes, hm.items⟩
    · rw [if_pos hh]; exact ⟨_, _, rfl, hm⟩
  · simp only [hk, Int.reduceBEq, if_true, if_false, Bool.false_eq_true, Option.bind_some]
    by_cases hh : v.Hidden = true
    rotate_left
    · rw [if_neg hh, kont_go']
      split
      · exact ⟨_, _, rfl, hm⟩
      · unfold mementoref16_Len
        rw [Option.bind_some]
        split
        · exact ⟨_, _, rfl, hm⟩
        · obtain ⟨t, ht, k, hk1, rfl⟩ := loop_QF (b := mementoref16_done_L1 v c) (s := (0 : Int)) (fun s => ∃ k : Nat, k ≤ v.Pins.length ∧ s = (k : Int)) (fun s => v.Pins.length - s.toNat) (fun t => ∃ k : Nat, k ≤ v.Pins.length ∧ t = (k : Int)) ⟨0, by omega, rfl⟩ (by simp; omega) (by
            rintro _ ⟨k, hk, rfl⟩
            simp only [mementoref16_done_L1]
            by_cases q : k < v.Pins.length
            · rw [if_pos (by simpa using q), idx_at q, Option.bind_some, Option.bind_some]
              split
              · right
                rw [next3 (by omega)]
                exact ⟨_, rfl, ⟨k + 1, q, rfl⟩, by simp only [Int.toNat_natCast]; omega⟩
              · left
                exact ⟨_, rfl, k, hk, rfl⟩
            · left
              rw [if_neg (by simpa using q), Option.bind_some, if_neg (by simp)]
              exact ⟨_, rfl, k, hk, rfl⟩)
          obtain ⟨s1, s2⟩ := slc_all v.Pins hk1
          rw [ht, Option.bind_some, s1, Option.bind_some, app_of (by simp; omega) (by simp; omega), Option.bind_some, app_of (by simp; omega) (by simp; omega), Option.bind_some, s2, Option.bind_some, app_of (by simp; omega) (by simp; omega), Option.bind_some]
          exact ⟨_, _, rfl, hm.id, hm.blocks, hm.size, hm.next, by simp; omega, hm.writes, hm.items⟩
    · rw [if_pos hh]; exact ⟨_, _, rfl, hm⟩
  · simp only [hk, Int.reduceBEq, if_true, if_false, Bool.false_eq_true, Option.bind_some]
    by_cases hh : v.Hidden = true
    rotate_left
    · rw [if_neg hh, kont_go']
      obtain ⟨t, ht, hq⟩ := loop_QF (b := mementoref16_done_L2 v c) (s := (0 : Int)) (fun s => ∃ k : Nat, k ≤ v.Pins.length ∧ s = (k : Int)) (fun s => v.Pins.length - s.toNat) (fun t => t = .go () ∨ ∃ v', t = .ret (.ret (v', 0)) ∧ VInv (n + 1) v') ⟨0, by omega, rfl⟩ (by simp; omega) (by
        rintro _ ⟨k, hk, rfl⟩
        simp only [mementoref16_done_L2]
        by_cases q : k < v.Pins.length
        · rw [if_pos (by simpa using q), idx_at q, Option.bind_some]
          obtain ⟨s1, s2⟩ := slc_all v.Pins hk
          obtain ⟨s3, s4⟩ := slc_all v.Pins (k := k + 1) q
          split
          · left
            rw [s1, Option.bind_some, app_of (by simp; omega) (by simp; omega), Option.bind_some, next3 (by omega), s4, Option.bind_some, app_of (by simp; omega) (by simp; omega), Option.bind_some]
            exact ⟨_, rfl, .inr ⟨_, rfl, hm.id, hm.blocks, hm.size, hm.next, by simp; omega, hm.writes, hm.items⟩⟩
          · right
            rw [next3 (by omega)]
            exact ⟨_, rfl, ⟨k + 1, q, rfl⟩, by simp only [Int.toNat_natCast]; omega⟩
        · left
          rw [if_neg (by simpa using q)]
          exact ⟨_, rfl, .inl rfl⟩)
      rw [ht]
      rcases hq with rfl | ⟨v', rfl, hv'⟩
      · exact ⟨_, _, rfl, hm⟩
      · exact ⟨_, _, rfl, hv'⟩
    · rw [if_pos hh]; exact ⟨_, _, rfl, hm⟩
  · simp only [hk, Int.reduceBEq, if_true, if_false, Bool.false_eq_true, Option.bind_some, kont_go']
    split
    · exact ⟨_, _, rfl, hm⟩
    · have fin : ∀ t : Bool, ∃ v' e, (kont (if t then (early (some (v, 0))) else ((if (c.Index != v.Next) then (some true) else (some (v.Next == v.Total))).bind fun t158 => (if t158 then (early (some (v, 33))) else (if (!b) then (early (some (v, 23))) else (some (.go (Api_Volume.mk v.Id v.Blocks v.Size v.Per v.Place v.Total (IntKind.wrap .i64 (v.Next + 1)) v.Hidden v.Floor v.Pins (v.Writes ++ [⟨(v.Writes.length : Int) + 1, c.Items⟩])))))))) fun me => (some (me, 0)) : Option (Api_Volume × Int)) = some (v', e) ∧ VInv (n + 1) v' := fun t => by
        cases t
        · rw [if_neg (by simp)]
          have f2 : ∀ t : Bool, ∃ v' e, (kont ((some t).bind fun t158 => (if t158 then (early (some (v, 33))) else (if (!b) then (early (some (v, 23))) else (some (.go (Api_Volume.mk v.Id v.Blocks v.Size v.Per v.Place v.Total (IntKind.wrap .i64 (v.Next + 1)) v.Hidden v.Floor v.Pins (v.Writes ++ [⟨(v.Writes.length : Int) + 1, c.Items⟩]))))))) fun me => (some (me, 0)) : Option (Api_Volume × Int)) = some (v', e) ∧ VInv (n + 1) v' := fun t => by
            cases t
            · cases b
              · exact ⟨_, _, rfl, hm⟩
              · have w := wok rfl
                refine ⟨_, _, rfl, w.id, w.blocks, w.size, ?_, w.pins, w.writes, w.items⟩
                simp only
                rw [wrap64 (by omega) (by omega)]
                omega
            · exact ⟨_, _, rfl, hm⟩
          split
          · exact f2 true
          · exact f2 _
        · exact ⟨_, _, rfl, hm⟩
      split
      · rw [Option.bind_some]; exact fin _
      · rw [Option.bind_some]; exact fin _
  · simp only [hk, Int.reduceBEq, if_true, if_false, Bool.false_eq_true, Option.bind_some, kont_go']
    unfold mementoref16_Len
    have fin : ∀ t : Bool, ∃ v' e, (kont (if t then (early (some (v, 33))) else ((some (v.Writes.length : Int)).bind fun y306 => (some (.go (Api_Volume.mk v.Id v.Blocks v.Size v.Per v.Place v.Total v.Next false y306 v.Pins v.Writes))))) fun me => (some (me, 0)) : Option (Api_Volume × Int)) = some (v', e) ∧ VInv (n + 1) v' := fun t => by
      cases t
      · exact ⟨_, _, rfl, hm.id, hm.blocks, hm.size, hm.next, hm.pins, hm.writes, hm.items⟩
      · exact ⟨_, _, rfl, hm⟩
    split
    · rw [Option.bind_some]; exact fin true
    · rw [Option.bind_some]; exact fin _
  · simp only [hk, Int.reduceBEq, if_true, if_false, Bool.false_eq_true, Option.bind_some, kont_go']
    exact ⟨_, _, rfl, hm⟩
end Go.Proofs.Ytgdbmgnfaefhoaa.Am
namespace Go.Proofs.Ytgdbmgnfaefhoaa.Am
open Go
set_option linter.unusedVariables false
set_option linter.unusedSimpArgs false
set_option maxRecDepth 100000
def MS (n : Nat) (m : Mementoref16_Machine) : Prop := m.L = [] ∨ ∃ v, m.L = [v] ∧ VInv n v
theorem find_nil {m : Mementoref16_Machine} (h : m.L = []) (id : Int) : mementoref16_Machine_find m id = some (-1) := by
  unfold mementoref16_Machine_find
  rw [loop_eqF (s := (0 : Int)) (fun s => s = 0) (fun _ => 0) (fun _ => .go ()) rfl (by omega)]
  · rfl
  rintro _ rfl
  left
  simp only [mementoref16_Machine_find_L1]
  rw [h, if_neg (by simp)]
  rfl
theorem find_one {m : Mementoref16_Machine} {v : Api_Volume} (h : m.L = [v]) {id : Int} (hv : v.Id = id) : mementoref16_Machine_find m id = some 0 := by
  unfold mementoref16_Machine_find
  rw [loop_eqF (s := (0 : Int)) (fun s => s = 0) (fun _ => 0) (fun _ => .ret 0) rfl (by omega)]
  · rfl
  rintro _ rfl
  left
  simp only [mementoref16_Machine_find_L1]
  have e : idx [v] (0 : Int) = some v := rfl
  rw [h, if_pos (by simp), e, Option.bind_some, if_pos (by simpa using hv)]
  rfl
theorem mvol_nil {m : Mementoref16_Machine} (h : m.L = []) : mementoref16_Machine_Volume m 0 = some (⟨0, 0, 0, 0, [], 0, 0, false, 0, [], []⟩, false) := by
  unfold mementoref16_Machine_Volume
  rw [find_nil h]
  rfl
theorem mvol_one {m : Mementoref16_Machine} {v : Api_Volume} (h : m.L = [v]) (hv : v.Id = 0) : mementoref16_Machine_Volume m 0 = some (v, true) := by
  unfold mementoref16_Machine_Volume
  have e : idx [v] (0 : Int) = some v := rfl
  rw [find_one h hv, Option.bind_some, if_neg (by simp), h, e]
  rfl
theorem new_ok {t : Int} {c : Api_VolCmd} (h : NewC t c) (ht : 0 ≤ t ∧ t ≤ 100) : ∃ v e, mementoref16_New c = some (v, e) ∧ (e = 0 → VInv 0 v) := by
  obtain ⟨k, v, b, s, p, tt, a, i, pl, it⟩ := h
  have hs : ∃ q, mementoref16_shape c = some q := by
    obtain ⟨B, hB⟩ := Int.eq_ofNat_of_zero_le (show 0 ≤ c.Blocks by omega)
    obtain ⟨P, hP⟩ := Int.eq_ofNat_of_zero_le (show 0 ≤ c.Per by omega)
    have hch := chunks_eq (b := B) (p := P) (by omega) (by omega) (by omega) (by omega)
    unfold mementoref16_shape
    rw [if_neg (by simp; omega), if_neg (by simp; omega), if_neg (by simp; omega), if_neg (by simp; omega), if_neg (by simp; omega), if_neg (by simp; omega), if_neg (by simp; omega), if_neg (by simp; omega), hB, hP, hch, Option.bind_some]
    have e : ∃ q, (if ((c.Place.length : Int) != (((B + P - 1) / P : Nat) : Int)) then (some true) else (if (decide (c.Total < 0)) then (some true) else (some (decide (c.Total > 1099511627776))))) = some q := by
      split
      · exact ⟨_, rfl⟩
      · split
        · exact ⟨_, rfl⟩
        · exact ⟨_, rfl⟩
    obtain ⟨q, e⟩ := e
    rw [e, Option.bind_some]
    cases q
    · rw [if_neg (by simp)]
      rw [loop_eqF (s := (0 : Int)) (fun s => ∃ k : Nat, k ≤ c.Place.length ∧ s = (k : Int)) (fun s => c.Place.length - s.toNat) (fun _ => .go ()) ⟨0, by omega, rfl⟩ (by simp; omega)]
      · exact ⟨_, rfl⟩
      rintro _ ⟨k, hk, rfl⟩
      simp only [mementoref16_shape_L1]
      by_cases q : k < c.Place.length
      · right
        have := pl.2 _ (List.getElem_mem q)
        rw [if_pos (by simpa using q), idx_at q, Option.bind_some, if_neg (by simp; omega), decide_eq_false (by omega), Option.bind_some, if_neg (by simp), next3 (by omega)]
        exact ⟨_, rfl, ⟨k + 1, q, rfl⟩, by simp only [Int.toNat_natCast]; omega, trivial⟩
      · left
        rw [if_neg (by simpa using q)]; rfl
    · exact ⟨false, rfl⟩
  obtain ⟨q, hq⟩ := hs
  unfold mementoref16_New
  rw [hq, Option.bind_some]
  cases q
  · exact ⟨_, _, rfl, fun e => by cases e⟩
  · rw [if_neg (by simp), app_of (by simp; omega) (by simp; omega), Option.bind_some]
    exact ⟨_, _, rfl, fun _ => ⟨v, b, s, ⟨by simp only; omega, by simp only; omega⟩, by simp, by simp, fun w hw => by cases hw⟩⟩
theorem apply_ok {n : Nat} {m : Mementoref16_Machine} (hm : MS n m) (hn : n ≤ 400) {c : Api_VolCmd} (hc : CmdR c) (hv : c.Vol = 0) (h1 : c.Kind = 1 → ∃ t, NewC t c ∧ 0 ≤ t ∧ t ≤ 100) :
    ∃ r m', mementoref16_Machine_Apply m (cmdB c) = some (r, m') ∧ MS (n + 1) m' := by
  have hmono : MS (n + 1) m := by
    rcases hm with h | ⟨v, h, hi⟩
    · exact .inl h
    · exact .inr ⟨v, h, hi.mono (by omega)⟩
  unfold mementoref16_Machine_Apply
  rw [readCmd_eq hc, Option.bind_some]
  simp only
  rw [if_neg (by simp), hv]
  rcases hm with h | ⟨v, h, hi⟩
  · rw [find_nil h, h, Option.bind_some, app_of (by simp) (by simp), Option.bind_some]
    by_cases k1 : c.Kind = 1
    · obtain ⟨t, hnc, ht⟩ := h1 k1
      obtain ⟨v, e, hnw, hve⟩ := new_ok hnc ht
      rw [if_pos (by simpa using k1), if_neg (by simp), hnw, Option.bind_some]
      simp only
      by_cases he : e = 0
      · subst he
        have hl : loopN (mementoref16_Machine_Apply_L1 c []) fuel 0 = some 0 := by
          refine loop_eqF (s := (0 : Int)) (fun s => s = 0) (fun _ => 0) (fun _ => 0) rfl (by omega) ?_
          rintro _ rfl
          left
          rfl
        have s0 : slc ([] : List Api_Volume) 0 0 = some [] := rfl
        have s1 : slc ([] : List Api_Volume) 0 (([] : List Api_Volume).length : Int) = some [] := rfl
        rw [if_neg (by simp), show (([] : List Api_Volume) ++ []) = [] from rfl, hl, Option.bind_some, s0, Option.bind_some, app_of (by simp) (by simp), Option.bind_some, app_of (by simp) (by simp), Option.bind_some, s1, Option.bind_some, app_of (by simp) (by simp), Option.bind_some]
        exact ⟨_, _, rfl, .inr ⟨v, rfl, (hve rfl).mono (by omega)⟩⟩
      · rw [if_pos (by simpa using he)]
        exact ⟨_, _, rfl, hmono⟩
    · rw [if_neg (by simpa using k1), if_pos (by simp)]
      exact ⟨_, _, rfl, hmono⟩
  · rw [find_one h hi.id, h, Option.bind_some, app_of (by simp) (by simp), Option.bind_some]
    by_cases k1 : c.Kind = 1
    · rw [if_pos (by simpa using k1), if_pos (by simp)]
      exact ⟨_, _, rfl, hmono⟩
    · have e : idx ([] ++ [v]) (0 : Int) = some v := rfl
      obtain ⟨v', e', hd, hv'⟩ := done_ok hi (by omega) hc
      rw [if_neg (by simpa using k1), if_neg (by simp), e, Option.bind_some]
      unfold mementoref16_Do
      rw [hd, Option.bind_some]
      simp only
      have u : ∀ x : Api_Volume, updL ([] ++ [v]) (0 : Int) x = some [x] := fun x => rfl
      by_cases he : e' = 0
      · rw [if_neg (by simpa using he)]
        unfold mementoref16_Len
        rw [Option.bind_some, Option.bind_some]
        simp only
        rw [u, Option.bind_some]
        exact ⟨_, _, rfl, .inr ⟨v', rfl, hv'⟩⟩
      · rw [if_pos (by simpa using he), Option.bind_some]
        simp only
        rw [u, Option.bind_some]
        exact ⟨_, _, rfl, .inr ⟨v, rfl, hi.mono (by omega)⟩⟩
theorem volume_ok {l : List Int} (hl : l.length ≤ 80) (h8 : ∀ x ∈ l, 0 ≤ x ∧ x < 256) : ∃ v, mementoseat_Volume l = some v ∧ VInv 30 v := by
  unfold mementoseat_Volume
  obtain ⟨m, hm, hms⟩ := loop_QF (b := mementoseat_Volume_L1 l) (s := ((0 : Int), Mementoref16_Machine.mk [])) (fun s => ∃ k : Nat, k ≤ 20 ∧ 4 * k ≤ l.length ∧ s.1 = ((4 * k : Nat) : Int) ∧ MS k s.2) (fun s => 100 - s.1.toNat) (fun m => MS 20 m)
    ⟨0, by omega, by omega, rfl, .inl rfl⟩ (by simp) (by
    rintro ⟨i, m⟩ ⟨k, hk, hk4, rfl, hms⟩
    simp only at hms ⊢
    simp only [mementoseat_Volume_L1]
    rw [wrap64 (n := ((4 * k : Nat) : Int) + 3) (by omega) (by omega)]
    by_cases c : 4 * k + 3 < l.length
    rotate_left
    · left
      rw [if_neg (by simp only [decide_eq_true_eq]; omega)]
      refine ⟨_, rfl, ?_⟩
      rcases hms with h | ⟨v, h, hi⟩
      · exact .inl h
      · exact .inr ⟨v, h, hi.mono hk⟩
    right
    rw [if_pos (by simp only [decide_eq_true_eq]; omega), wrap64 (n := ((4 * k : Nat) : Int) + 1) (by omega) (by omega), wrap64 (n := ((4 * k : Nat) : Int) + 2) (by omega) (by omega), wrap64 (n := ((4 * k : Nat) : Int) + 4) (by omega) (by omega),
      show ((4 * k : Nat) : Int) + 1 = ((4 * k + 1 : Nat) : Int) by omega, show ((4 * k : Nat) : Int) + 2 = ((4 * k + 2 : Nat) : Int) by omega, show ((4 * k : Nat) : Int) + 3 = ((4 * k + 3 : Nat) : Int) by omega, show ((4 * k : Nat) : Int) + 4 = ((4 * (k + 1) : Nat) : Int) by omega]
    have i0 := idx_at (l := l) (i := 4 * k) (by omega)
    have i1 := idx_at (l := l) (i := 4 * k + 1) (by omega)
    have i2 := idx_at (l := l) (i := 4 * k + 2) (by omega)
    have i3 := idx_at (l := l) (i := 4 * k + 3) (by omega)
    have b0 := h8 _ (List.getElem_mem (show 4 * k < l.length by omega))
    have b1 := h8 _ (List.getElem_mem (show 4 * k + 1 < l.length by omega))
    have b2 := h8 _ (List.getElem_mem (show 4 * k + 2 < l.length by omega))
    have b3 := h8 _ (List.getElem_mem (show 4 * k + 3 < l.length by omega))
    have step : ∀ c : Api_VolCmd, CmdR c → c.Vol = 0 → (c.Kind = 1 → ∃ t, NewC t c ∧ 0 ≤ t ∧ t ≤ 100) → ∃ s', ((mementoref16_PutCmd c).bind fun (y47, y48) => ((mementoref16_Machine_Apply m y47).bind fun (y50, y51) => (some (Ctl.go (((4 * (k + 1) : Nat) : Int), y51)) : Option (Ctl Mementoref16_Machine (Int × Mementoref16_Machine))))) = some (.go s') ∧ (∃ k : Nat, k ≤ 20 ∧ 4 * k ≤ l.length ∧ s'.1 = ((4 * k : Nat) : Int) ∧ MS k s'.2) ∧ 100 - s'.1.toNat < 100 - (((4 * k : Nat) : Int)).toNat := fun c h1 h2 h3 => by
      obtain ⟨r, m', ha, hm'⟩ := apply_ok hms (by omega) h1 h2 h3
      rw [putCmd_eq h1, Option.bind_some]
      simp only
      rw [ha, Option.bind_some]
      exact ⟨_, rfl, ⟨k + 1, by omega, by omega, rfl, hm'⟩, by simp only [Int.toNat_natCast]; omega⟩
    rcases hms with h | ⟨v, h, hi⟩
    · rw [mvol_nil h, Option.bind_some]
      simp only
      rw [i0, Option.bind_some, i1, Option.bind_some, i2, Option.bind_some, i3, Option.bind_some]
      obtain ⟨x, t, hx, hnc, t0, t3⟩ := cmd_new (v := ⟨0, 0, 0, 0, [], 0, 0, false, 0, [], []⟩) rfl (a := l[4 * k]) (b := l[4 * k + 1]) (c := l[4 * k + 2]) (d := l[4 * k + 3]) b1 b2 b3
      rw [hx, Option.bind_some]
      exact step x (hnc.cmdR (by omega)) hnc.vol fun _ => ⟨t, hnc, t0, by omega⟩
    · rw [mvol_one h hi.id, Option.bind_some]
      simp only
      rw [i0, Option.bind_some, i1, Option.bind_some, i2, Option.bind_some, i3, Option.bind_some]
      obtain ⟨x, hx, hr, hvol, hk1⟩ := cmd_there hi (by omega) b0 b1 b2 b3
      rw [hx, Option.bind_some]
      exact step x hr hvol fun e => absurd e hk1)
  rw [hm, Option.bind_some]
  rcases hms with h | ⟨v, h, hi⟩
  · rw [h, if_pos (by simp)]
    have e : ((mementoseat_Create 0 3 1 1 0).bind fun y59 => ((mementoref16_New y59).bind fun (y61, y62) => (some y61))) = some ⟨0, 4, 2, 2, [2, 1], 0, 0, false, 0, [], []⟩ := by kernel_rfl
    exact ⟨_, e, rfl, by decide, by decide, by decide, by decide, by decide, fun w hw => by cases hw⟩
  · have e : idx [v] (0 : Int) = some v := rfl
    rw [h, if_neg (by simp), e, Option.bind_some]
    exact ⟨v, rfl, hi.mono (by omega)⟩
def blank (v : Api_Volume) : List (List Int) := List.replicate v.Blocks.toNat (List.replicate v.Size.toNat 0)
def ovr (s : List (List Int)) (l : List Api_Item) : List (List Int) := l.foldl (fun s x => s.set x.Block.toNat x.Data) s
def stateL (v : Api_Volume) (t : Nat) : List (List Int) := (v.Writes.take t).foldl (fun s w => ovr s w.Items) (blank v)
theorem ovr_len : ∀ (l : List Api_Item) (s : List (List Int)), (ovr s l).length = s.length
  | [], s => rfl
  | x :: l, s => by
    show (ovr (s.set x.Block.toNat x.Data) l).length = _
    rw [ovr_len l, List.length_set]
theorem ovr_snoc (s : List (List Int)) (l : List Api_Item) (x : Api_Item) : ovr s (l ++ [x]) = (ovr s l).set x.Block.toNat x.Data := by unfold ovr; rw [List.foldl_append]; rfl
theorem stateL_len (v : Api_Volume) : ∀ t, (stateL v t).length = v.Blocks.toNat := fun t => by
  unfold stateL
  generalize v.Writes.take t = l
  have : ∀ (l : List Api_Write) (s : List (List Int)), (l.foldl (fun s w => ovr s w.Items) s).length = s.length := fun l => by
    induction l with
    | nil => intro s; rfl
    | cons w l ih => intro s; rw [List.foldl_cons, ih, ovr_len]
  rw [this]
  simp [blank]
theorem stateL_succ {v : Api_Volume} {t : Nat} (h : t < v.Writes.length) : stateL v (t + 1) = ovr (stateL v t) v.Writes[t].Items := by
  unfold stateL
  rw [List.take_succ_eq_append_getElem h, List.foldl_append]
  rfl
def RowOk (v : Api_Volume) (b : List Int) : Prop := (b.length : Int) = v.Size ∧ Byt b
theorem mem_set {α : Type} {l : List α} {i : Nat} {a x : α} (h : x ∈ l.set i a) : x ∈ l ∨ x = a := List.mem_or_eq_of_mem_set h
theorem ovr_row {v : Api_Volume} : ∀ (l : List Api_Item) (s : List (List Int)), (∀ x ∈ l, RowOk v x.Data) → (∀ b ∈ s, RowOk v b) → ∀ b ∈ ovr s l, RowOk v b
  | [], s, _, h => h
  | x :: l, s, hl, h => by
    show ∀ b ∈ ovr (s.set x.Block.toNat x.Data) l, RowOk v b
    refine ovr_row l _ (fun y hy => hl y (List.mem_cons_of_mem _ hy)) fun b hb => ?_
    rcases mem_set hb with q | q
    · exact h b q
    · rw [q]; exact hl x (List.mem_cons_self ..)
theorem stateL_row {n : Nat} {v : Api_Volume} (hv : VInv n v) : ∀ t, t ≤ v.Writes.length → ∀ b ∈ stateL v t, RowOk v b
  | 0, _, b, hb => by
    have hs := hv.size
    unfold stateL blank at hb
    simp only [List.take_zero, List.foldl_nil] at hb
    rw [(List.mem_replicate.1 hb).2]
    refine ⟨by rw [List.length_replicate]; omega, fun x hx => ?_⟩
    rw [(List.mem_replicate.1 hx).2]
    omega
  | t + 1, ht, b, hb => by
    rw [stateL_succ (by omega)] at hb
    refine ovr_row _ _ (fun x hx => ?_) (stateL_row hv t (by omega)) b hb
    have := (hv.items _ (List.getElem_mem (show t < v.Writes.length by omega))).2.2 x hx
    exact ⟨this.2.2.1, this.2.2.2⟩
theorem state_eq {n : Nat} {v : Api_Volume} (hv : VInv n v) (hn : n ≤ 1000) (hf : v.Floor = 0) {t : Nat} (ht : t ≤ v.Writes.length) : mementoref16_State v t = some (stateL v t, 0) := by
  have hb := hv.blocks
  have hs := hv.size
  have hw := hv.writes
  obtain ⟨B, hB⟩ := Int.eq_ofNat_of_zero_le (show 0 ≤ v.Blocks by omega)
  obtain ⟨S, hS⟩ := Int.eq_ofNat_of_zero_le (show 0 ≤ v.Size by omega)
  unfold mementoref16_State mementoref16_Len
  rw [hf, if_neg (by simp), Option.bind_some, if_neg (by simp; omega)]
  have l1 : loopN (mementoref16_State_L1 v) fuel (([] : List (List Int)), (0 : Int)) = some (blank v) := by
    refine loop_eqF (s := (([] : List (List Int)), (0 : Int))) (fun s => ∃ k : Nat, k ≤ B ∧ s = (List.replicate k (List.replicate S 0), (k : Int))) (fun s => B - s.2.toNat) (fun _ => blank v) ⟨0, by omega, rfl⟩ (by simp only; omega) ?_
    rintro _ ⟨k, hk, rfl⟩
    simp only [mementoref16_State_L1]
    rw [hB, hS]
    by_cases c : k < B
    · right
      have em : mks 1 (0 : Int) (S : Int) = some (List.replicate S 0) := by unfold mks; rw [if_pos ⟨by omega, by omega, by omega⟩]; rfl
      rw [if_pos (by simpa using c), em, Option.bind_some, app_of (by simp; omega) (by simp; omega), Option.bind_some, next3 (by omega)]
      exact ⟨_, rfl, ⟨k + 1, c, by rw [← List.replicate_succ']⟩, by simp only [Int.toNat_natCast]; omega, by first | rfl | trivial⟩
    · left
      have : k = B := by omega
      subst this
      rw [if_neg (by simp)]
      unfold blank
      rw [hB, hS]
      rfl
  rw [l1, Option.bind_some]
  have l2 : loopN (mementoref16_State_L2 v t) fuel ((0 : Int), blank v) = some (stateL v t) := by
    refine loop_eqF (s := ((0 : Int), blank v)) (fun s => ∃ k : Nat, k ≤ t ∧ s = ((k : Int), stateL v k)) (fun s => t - s.1.toNat) (fun _ => stateL v t) ⟨0, by omega, rfl⟩ (by simp only; omega) ?_
    rintro _ ⟨k, hk, rfl⟩
    simp only [mementoref16_State_L2]
    by_cases c : k < t
    · right
      have hlt : k < v.Writes.length := by omega
      have hit := hv.items _ (List.getElem_mem hlt)
      have l3 : loopN (mementoref16_State_L3 v.Writes[k]) fuel ((0 : Int), stateL v k) = some (stateL v (k + 1)) := by
        rw [stateL_succ hlt]
        refine loop_eqF (s := ((0 : Int), stateL v k)) (fun s => ∃ j : Nat, j ≤ v.Writes[k].Items.length ∧ s = ((j : Int), ovr (stateL v k) (v.Writes[k].Items.take j))) (fun s => v.Writes[k].Items.length - s.1.toNat) (fun _ => ovr (stateL v k) v.Writes[k].Items) ⟨0, by omega, rfl⟩ (by simp only; omega) ?_
        rintro _ ⟨j, hj, rfl⟩
        simp only [mementoref16_State_L3]
        by_cases d : j < v.Writes[k].Items.length
        · right
          obtain ⟨x1, x2, x3, x4⟩ := hit.2.2 _ (List.getElem_mem d)
          obtain ⟨b, hbk⟩ := Int.eq_ofNat_of_zero_le x1
          have hbl : b < (ovr (stateL v k) (v.Writes[k].Items.take j)).length := by rw [ovr_len, stateL_len]; omega
          rw [if_pos (by simpa using d), idx_at d, Option.bind_some, hbk, idx_at hbl, Option.bind_some, updL_nat hbl, Option.bind_some, next3 (by omega)]
          refine ⟨_, rfl, ⟨j + 1, d, ?_⟩, by simp only [Int.toNat_natCast]; omega, by first | rfl | trivial⟩
          rw [List.take_succ_eq_append_getElem d, ovr_snoc, hbk, Int.toNat_natCast]
        · left
          have : j = v.Writes[k].Items.length := by omega
          subst this
          rw [if_neg (by simp), List.take_length]; rfl
      rw [if_pos (by simpa using c), idx_at hlt, Option.bind_some, l3, Option.bind_some, next3 (by omega)]
      exact ⟨_, rfl, ⟨k + 1, c, rfl⟩, by simp only [Int.toNat_natCast]; omega, by first | rfl | trivial⟩
    · left
      have : k = t := by omega
      subst this
      rw [if_neg (by simp)]; rfl
  rw [l2]
  rfl
end Go.Proofs.Ytgdbmgnfaefhoaa.Am
namespace Go.Proofs.Ytgdbmgnfaefhoaa.Am
open Go
set_option linter.unusedVariables false
set_option linter.unusedSimpArgs false
set_option maxRecDepth 100000
def itOk (s : Api_Stream) (k : Nat) (h : k < s.Items.length) : Prop :=
  0 ≤ s.Items[k].Block ∧ s.Items[k].Block < s.Blocks ∧ (∀ h0 : 0 < k, (s.Items[k - 1]'(by omega)).Block < s.Items[k].Block) ∧ (s.Items[k].Data.length : Int) = s.Size
def hdOk (s : Api_Stream) : Prop := (1 ≤ s.Blocks ∧ s.Blocks ≤ 256) ∧ (1 ≤ s.Size ∧ s.Size ≤ 32) ∧ -1 ≤ s.From ∧ s.From ≤ s.To ∧ 0 ≤ s.To ∧ s.To ≤ 1099511627776 ∧ (s.From < 0 → (s.Items.length : Int) = s.Blocks)
def SRt (s : Api_Stream) : Prop := hdOk s ∧ ∀ k (h : k < s.Items.length), itOk s k h
theorem right_loop {s : Api_Stream} (hl : s.Items.length ≤ 100000) :
    ∃ t, loopN (stream_Right_L1 s) fuel (0 : Int) = some t ∧ ((t = .ret false ∧ ¬ (∀ k (h : k < s.Items.length), itOk s k h)) ∨ (t = .go () ∧ ∀ k (h : k < s.Items.length), itOk s k h)) := by
  refine loop_QF (s := (0 : Int)) (fun i => ∃ k : Nat, k ≤ s.Items.length ∧ i = (k : Int) ∧ ∀ j (h : j < s.Items.length), j < k → itOk s j h) (fun i => s.Items.length - i.toNat) _ ⟨0, by omega, rfl, fun j h q => absurd q (Nat.not_lt_zero _)⟩ (by simp; omega) ?_
  rintro _ ⟨k, hk, rfl, hall⟩
  simp only [stream_Right_L1]
  by_cases c : k < s.Items.length
  rotate_left
  · left
    rw [if_neg (by simpa using c)]
    exact ⟨_, rfl, .inr ⟨rfl, fun j h => hall j h (by omega)⟩⟩
  rw [if_pos (by simpa using c), idx_at c, Option.bind_some]
  have bad : ∀ x : Prop, x → ¬ itOk s k c → ∃ t, (early (early (some false)) : Option (Ctl (Ctl Bool Unit) Int)) = some (.ret t) ∧ ((t = .ret false ∧ ¬ (∀ k (h : k < s.Items.length), itOk s k h)) ∨ (t = .go () ∧ ∀ k (h : k < s.Items.length), itOk s k h)) := fun _ _ hn => ⟨_, rfl, .inl ⟨rfl, fun q => hn (q k c)⟩⟩
  by_cases d1 : s.Items[k].Block < 0
  · left
    rw [if_pos (by simpa using d1), Option.bind_some, if_pos rfl]
    exact bad True trivial fun q => by have := q.1; omega
  rw [if_neg (by simpa using d1)]
  by_cases d2 : s.Items[k].Block ≥ s.Blocks
  · left
    rw [if_pos (by simpa using d2), Option.bind_some, if_pos rfl]
    exact bad True trivial fun q => by have := q.2.1; omega
  rw [if_neg (by simpa using d2)]
  have last : (∀ h0 : 0 < k, (s.Items[k - 1]'(by omega)).Block < s.Items[k].Block) → (∃ t, ((some ((s.Items[k].Data.length : Int) != s.Size)).bind fun t95 => (if t95 then (early (early (some false))) else (some (.go (IntKind.wrap .i64 ((k : Int) + 1))))) : Option (Ctl (Ctl Bool Unit) Int)) = some (.ret t) ∧ ((t = .ret false ∧ ¬ (∀ k (h : k < s.Items.length), itOk s k h)) ∨ (t = .go () ∧ ∀ k (h : k < s.Items.length), itOk s k h))) ∨
      ∃ s', ((some ((s.Items[k].Data.length : Int) != s.Size)).bind fun t95 => (if t95 then (early (early (some false))) else (some (.go (IntKind.wrap .i64 ((k : Int) + 1))))) : Option (Ctl (Ctl Bool Unit) Int)) = some (.go s') ∧ (∃ k : Nat, k ≤ s.Items.length ∧ s' = (k : Int) ∧ ∀ j (h : j < s.Items.length), j < k → itOk s j h) ∧ s.Items.length - s'.toNat < s.Items.length - (k : Int).toNat := fun hp => by
    by_cases d3 : (s.Items[k].Data.length : Int) = s.Size
    · right
      rw [Option.bind_some, if_neg (by simpa using d3), next3 (by omega)]
      refine ⟨_, rfl, ⟨k + 1, c, rfl, fun j h hj => ?_⟩, by simp only [Int.toNat_natCast]; omega⟩
      by_cases e : j = k
      · subst e; exact ⟨by omega, by omega, hp, d3⟩
      · exact hall j h (by omega)
    · left
      rw [Option.bind_some, if_pos (by simpa using d3)]
      exact bad True trivial fun q => d3 q.2.2.2
  by_cases k0 : 0 < k
  · rw [if_pos (by simpa using k0), wrap64 (by omega) (by omega), show (k : Int) - 1 = ((k - 1 : Nat) : Int) by omega, idx_at (by omega), Option.bind_some]
    by_cases d4 : s.Items[k].Block ≤ (s.Items[k - 1]'(by omega)).Block
    · left
      rw [if_pos (by simpa using d4), Option.bind_some, if_pos rfl]
      exact bad True trivial fun q => by have := q.2.2.1 k0; omega
    · rw [if_neg (by simpa using d4)]
      exact last fun _ => by omega
  · rw [if_neg (by simpa using k0)]
    exact last fun h => absurd h k0
theorem refright_loop {s : Api_Stream} (hl : s.Items.length ≤ 100000) :
    ∃ t, loopN (mementoref21_Right_L1 s) fuel ((-1 : Int), (0 : Int)) = some t ∧ ((t = .ret false ∧ ¬ (∀ k (h : k < s.Items.length), itOk s k h)) ∨ (t = .go () ∧ ∀ k (h : k < s.Items.length), itOk s k h)) := by
  refine loop_QF (s := ((-1 : Int), (0 : Int))) (fun i => ∃ k : Nat, k ≤ s.Items.length ∧ i.2 = (k : Int) ∧ -1 ≤ i.1 ∧ (∀ h : 0 < k, ∀ h2 : k - 1 < s.Items.length, i.1 = s.Items[k - 1].Block) ∧ (k = 0 → i.1 = -1) ∧ ∀ j (h : j < s.Items.length), j < k → itOk s j h) (fun i => s.Items.length - i.2.toNat) _ ⟨0, by omega, rfl, by simp, fun h => absurd h (Nat.lt_irrefl _), fun _ => rfl, fun j h q => absurd q (Nat.not_lt_zero _)⟩ (by simp only; omega) ?_
  rintro ⟨la, _⟩ ⟨k, hk, rfl, hla, hl1, hl0, hall⟩
  simp only at hla hl1 hl0 ⊢
  simp only [mementoref21_Right_L1]
  by_cases c : k < s.Items.length
  rotate_left
  · left
    rw [if_neg (by simpa using c)]
    exact ⟨_, rfl, .inr ⟨rfl, fun j h => hall j h (by omega)⟩⟩
  rw [if_pos (by simpa using c), idx_at c, Option.bind_some]
  have lt : (∀ h0 : 0 < k, (s.Items[k - 1]'(by omega)).Block < s.Items[k].Block) ∧ 0 ≤ s.Items[k].Block ↔ la < s.Items[k].Block := by
    rcases Nat.eq_zero_or_pos k with e | e
    · have := hl0 e
      constructor
      · rintro ⟨_, h⟩; omega
      · intro h; exact ⟨fun h0 => by omega, by omega⟩
    · have := hl1 e (by omega)
      constructor
      · rintro ⟨h, _⟩; have := h e; omega
      · intro h
        refine ⟨fun _ => by omega, by omega⟩
  by_cases d1 : s.Items[k].Block ≤ la
  · left
    rw [if_pos (by simpa using d1), Option.bind_some, if_pos rfl]
    exact ⟨_, rfl, .inl ⟨rfl, fun q => by
      obtain ⟨q1, q2, q3, q4⟩ := q k c
      have := lt.1 ⟨q3, q1⟩; omega⟩⟩
  rw [if_neg (by simpa using d1)]
  by_cases d2 : s.Items[k].Block ≥ s.Blocks
  · left
    rw [if_pos (by simpa using d2), Option.bind_some, if_pos rfl]
    exact ⟨_, rfl, .inl ⟨rfl, fun q => by have := (q k c).2.1; omega⟩⟩
  rw [if_neg (by simpa using d2), Option.bind_some]
  by_cases d3 : (s.Items[k].Data.length : Int) = s.Size
  · right
    obtain ⟨p1, p2⟩ := lt.2 (by omega)
    rw [if_neg (by simpa using d3), Option.bind_some, next3 (by omega)]
    refine ⟨_, rfl, ⟨k + 1, c, rfl, by simp only; omega, fun _ h2 => rfl, fun h => absurd h (Nat.succ_ne_zero _), fun j h hj => ?_⟩, by simp only [Int.toNat_natCast]; omega⟩
    by_cases e : j = k
    · subst e; exact ⟨p2, by omega, p1, d3⟩
    · exact hall j h (by omega)
  · left
    rw [if_pos (by simpa using d3)]
    exact ⟨_, rfl, .inl ⟨rfl, fun q => d3 (q k c).2.2.2⟩⟩
theorem hd_cond {s : Api_Stream} {b : Bool} : (((if (decide (s.Blocks < 1)) then (some true) else (if (decide (s.Blocks > 256)) then (some true) else (if (decide (s.Size < 1)) then (some true) else (if (decide (s.Size > 32)) then (some true) else (if (decide (s.From < (-1))) then (some true) else (if (decide (s.To < (maxI s.From 0))) then (some true) else (if (decide (s.To > 1099511627776)) then (some true) else (if (decide (s.From < 0)) then (some ((s.Items.length : Int) != s.Blocks)) else (some false))))))))) : Option Bool) = some b) → (b = true ↔ ¬ hdOk s) := by
  have hm : ∀ y, y < maxI s.From 0 ↔ y < s.From ∨ y < 0 := fun y => by unfold maxI; split <;> omega
  intro h
  unfold hdOk
  split at h
  · rename_i q; cases h; simp only [decide_eq_true_eq] at q; simp only [true_iff]; omega
  split at h
  · rename_i q; cases h; simp only [decide_eq_true_eq] at q; simp only [true_iff]; omega
  split at h
  · rename_i q; cases h; simp only [decide_eq_true_eq] at q; simp only [true_iff]; omega
  split at h
  · rename_i q; cases h; simp only [decide_eq_true_eq] at q; simp only [true_iff]; omega
  split at h
  · rename_i q; cases h; simp only [decide_eq_true_eq] at q; simp only [true_iff]; omega
  split at h
  · rename_i q; cases h; simp only [decide_eq_true_eq, hm] at q; simp only [true_iff]; omega
  split at h
  · rename_i q; cases h; simp only [decide_eq_true_eq] at q; simp only [true_iff]; omega
  rename_i q1 q2 q3 q4 q5 q6 q7
  simp only [decide_eq_true_eq, hm] at q1 q2 q3 q4 q5 q6 q7
  split at h
  · rename_i q
    simp only [decide_eq_true_eq] at q
    cases h
    simp only [bne_iff_ne, ne_eq]
    omega
  · rename_i q
    simp only [decide_eq_true_eq] at q
    cases h
    simp only [Bool.false_eq_true, false_iff, Classical.not_not]
    omega
open Classical in
theorem right_eq {s : Api_Stream} (hl : s.Items.length ≤ 100000) : stream_Right s = some (decide (SRt s)) := by
  unfold stream_Right
  obtain ⟨b, hb⟩ : ∃ b, ((if (decide (s.Blocks < 1)) then (some true) else (if (decide (s.Blocks > 256)) then (some true) else (if (decide (s.Size < 1)) then (some true) else (if (decide (s.Size > 32)) then (some true) else (if (decide (s.From < (-1))) then (some true) else (if (decide (s.To < (maxI s.From 0))) then (some true) else (if (decide (s.To > 1099511627776)) then (some true) else (if (decide (s.From < 0)) then (some ((s.Items.length : Int) != s.Blocks)) else (some false))))))))) : Option Bool) = some b := by
    repeat' split
    all_goals exact ⟨_, rfl⟩
  rw [hb, Option.bind_some]
  have hh := hd_cond hb
  obtain ⟨t, ht, hq⟩ := right_loop hl
  rw [ht]
  cases b
  · have hd : hdOk s := Classical.not_not.1 fun q => by have := hh.2 q; cases this
    rw [if_neg (by simp)]
    rcases hq with ⟨rfl, q⟩ | ⟨rfl, q⟩
    · rw [kont_ret, decide_eq_false fun h => q h.2]
    · rw [kont_go', decide_eq_true (show SRt s from ⟨hd, q⟩)]
  · rw [if_pos rfl, decide_eq_false fun h => hh.1 rfl h.1]
open Classical in
theorem refright_eq {s : Api_Stream} (hl : s.Items.length ≤ 100000) : mementoref21_Right s = some (decide (SRt s)) := by
  unfold mementoref21_Right
  obtain ⟨b, hb, hh⟩ : ∃ b, ((if (decide (s.Blocks < 1)) then (some true) else (if (decide (s.Blocks > 256)) then (some true) else (if (decide (s.Size < 1)) then (some true) else (if (decide (s.Size > 32)) then (some true) else (if (decide (s.From < (-1))) then (some true) else (if (decide (s.To < 0)) then (some true) else (if (decide (s.To > 1099511627776)) then (some true) else (if (decide (s.To < s.From)) then (some true) else (if (decide (s.From < 0)) then (some ((s.Items.length : Int) != s.Blocks)) else (some false)))))))))) : Option Bool) = some b ∧ (b = true ↔ ¬ hdOk s) := by
    unfold hdOk
    split
    · rename_i q; simp only [decide_eq_true_eq] at q; exact ⟨_, rfl, by simp only [true_iff]; omega⟩
    split
    · rename_i q; simp only [decide_eq_true_eq] at q; exact ⟨_, rfl, by simp only [true_iff]; omega⟩
    split
    · rename_i q; simp only [decide_eq_true_eq] at q; exact ⟨_, rfl, by simp only [true_iff]; omega⟩
    split
    · rename_i q; simp only [decide_eq_true_eq] at q; exact ⟨_, rfl, by simp only [true_iff]; omega⟩
    split
    · rename_i q; simp only [decide_eq_true_eq] at q; exact ⟨_, rfl, by simp only [true_iff]; omega⟩
    split
    · rename_i q; simp only [decide_eq_true_eq] at q; exact ⟨_, rfl, by simp only [true_iff]; omega⟩
    split
    · rename_i q; simp only [decide_eq_true_eq] at q; exact ⟨_, rfl, by simp only [true_iff]; omega⟩
    split
    · rename_i q; simp only [decide_eq_true_eq] at q; exact ⟨_, rfl, by simp only [true_iff]; omega⟩
    rename_i q1 q2 q3 q4 q5 q6 q7 q8
    simp only [decide_eq_true_eq] at q1 q2 q3 q4 q5 q6 q7 q8
    split
    · rename_i q
      simp only [decide_eq_true_eq] at q
      refine ⟨_, rfl, ?_⟩
      simp only [bne_iff_ne, ne_eq]
      omega
    · rename_i q
      simp only [decide_eq_true_eq] at q
      refine ⟨_, rfl, ?_⟩
      simp only [Bool.false_eq_true, false_iff, Classical.not_not]
      omega
  rw [hb, Option.bind_some]
  obtain ⟨t, ht, hq⟩ := refright_loop hl
  rw [ht]
  cases b
  · have hd : hdOk s := Classical.not_not.1 fun q => by have := hh.2 q; cases this
    rw [if_neg (by simp)]
    rcases hq with ⟨rfl, q⟩ | ⟨rfl, q⟩
    · rw [kont_ret, decide_eq_false fun h => q h.2]
    · rw [kont_go', decide_eq_true (show SRt s from ⟨hd, q⟩)]
  · rw [if_pos rfl, decide_eq_false fun h => hh.1 rfl h.1]
end Go.Proofs.Ytgdbmgnfaefhoaa.Am
namespace Go.Proofs.Ytgdbmgnfaefhoaa.Am
open Go
set_option linter.unusedVariables false
set_option linter.unusedSimpArgs false
set_option maxRecDepth 100000
structure WI (s : Api_Stream) : Prop where
  blocks : 1 ≤ s.Blocks ∧ s.Blocks ≤ 9
  size : 1 ≤ s.Size ∧ s.Size ≤ 3
  from_ : s.From = -1
  to : 0 ≤ s.To ∧ s.To ≤ 1000
  len : (s.Items.length : Int) = s.Blocks
  it : ∀ k (h : k < s.Items.length), s.Items[k].Block = (k : Int) ∧ (s.Items[k].Data.length : Int) = s.Size ∧ Byt s.Items[k].Data
theorem WI.srt {s : Api_Stream} (h : WI s) : SRt s := by
  obtain ⟨b, z, f, t, l, i⟩ := h
  refine ⟨⟨⟨by omega, by omega⟩, ⟨by omega, by omega⟩, by omega, by omega, by omega, by omega, fun _ => l⟩, fun k hk => ?_⟩
  obtain ⟨q1, q2, _⟩ := i k hk
  refine ⟨by omega, by omega, fun h0 => ?_, q2⟩
  obtain ⟨q3, _⟩ := i (k - 1) (by omega)
  omega
theorem remJ {a b : Int} (ha : 0 ≤ a ∧ a < 65536) (hb : 1 ≤ b) (hb2 : b ≤ 100000) : ∃ k : Nat, (k : Int) < b ∧ remI (IntKind.wrap .i64 a) b = some (k : Int) := by
  rw [wrap64 (n := a) (by omega) (by omega)]
  unfold remI
  have q1 := Int.tmod_lt_of_pos a (show (0 : Int) < b by omega)
  have q2 := Int.tmod_nonneg b ha.1
  rw [if_neg (by omega)]
  exact ⟨(Int.tmod a b).toNat, by omega, by rw [Int.toNat_of_nonneg q2]⟩
theorem whole_ok {a0 : List Int} (hl : a0.length ≤ 60) (h0 : Byt a0) : ∃ s, mementolaw24_whole a0 = some s ∧ WI s := by
  obtain ⟨v, hv, hi⟩ := volume_ok (l := a0) (by omega) h0
  have hi0 : VInv 30 ⟨v.Id, v.Blocks, v.Size, v.Per, v.Place, v.Total, v.Next, v.Hidden, 0, v.Pins, v.Writes⟩ := ⟨hi.id, hi.blocks, hi.size, hi.next, hi.pins, hi.writes, hi.items⟩
  have hw := hi.writes
  have hB := hi.blocks
  have hS := hi.size
  unfold mementolaw24_whole
  rw [hv, Option.bind_some]
  generalize hv0 : Api_Volume.mk v.Id v.Blocks v.Size v.Per v.Place v.Total v.Next v.Hidden 0 v.Pins v.Writes = v0 at hi0
  have hw0 : v0.Writes = v.Writes := by rw [← hv0]
  have hf0 : v0.Floor = 0 := by rw [← hv0]
  have hb0 : v0.Blocks = v.Blocks := by rw [← hv0]
  have hs0 : v0.Size = v.Size := by rw [← hv0]
  unfold mementoref16_Len
  rw [Option.bind_some, hw0, state_eq hi0 (by omega) hf0 (t := v.Writes.length) (by rw [hw0]; omega), Option.bind_some]
  simp only
  have lt := stateL_len v0 v.Writes.length
  have rt := stateL_row hi0 v.Writes.length (by rw [hw0]; omega)
  rw [hb0] at lt
  generalize stateL v0 v.Writes.length = st at lt rt ⊢
  have hlp : loopN (mementolaw24_whole_L1 st) fuel ((0 : Int), ([] : List Api_Item)) = some ((List.range st.length).map fun i : Nat => Api_Item.mk (i : Int) (st.getD i [])) := by
    refine loop_eqF (fun s : Int × List Api_Item => ∃ k : Nat, k ≤ st.length ∧ s = ((k : Int), (List.range k).map fun i : Nat => Api_Item.mk (i : Int) (st.getD i []))) (fun s => st.length - s.1.toNat) (fun _ => (List.range st.length).map fun i : Nat => Api_Item.mk (i : Int) (st.getD i [])) ⟨0, by omega, rfl⟩ (by simp only; omega) ?_
    rintro _ ⟨k, hk, rfl⟩
    simp only [mementolaw24_whole_L1]
    by_cases c : k < st.length
    · right
      rw [if_pos (by simpa using c), idx_at c, Option.bind_some, app_of (by simp; omega) (by simp; omega), Option.bind_some, next3 (by omega)]
      refine ⟨_, rfl, ⟨k + 1, c, ?_⟩, by simp only [Int.toNat_natCast]; omega, trivial⟩
      rw [List.range_succ, List.map_append, List.map_singleton, List.getD_eq_getElem?_getD, List.getElem?_eq_getElem c, Option.getD_some]
    · left
      have : k = st.length := by omega
      subst this
      rw [if_neg (by simp)]; rfl
  rw [hlp, Option.bind_some]
  refine ⟨_, rfl, hB, hS, rfl, ⟨by simp only; omega, by simp only; omega⟩, by simp only [List.length_map, List.length_range]; omega, fun k hk => ?_⟩
  simp only [List.length_map, List.length_range] at hk
  simp only [List.getElem_map, List.getElem_range]
  have hr := rt (st[k]) (List.getElem_mem hk)
  rw [List.getD_eq_getElem?_getD, List.getElem?_eq_getElem hk, Option.getD_some]
  exact ⟨trivial, by rw [← hs0]; exact hr.1, hr.2⟩
def placeL (n : Nat) (k : Int) : List Int := (List.range n).map fun i : Nat => 1 + Int.tmod ((i : Int) + k) 3
theorem placeL_len (n : Nat) (k : Int) : (placeL n k).length = n := by simp [placeL]
theorem placeL_mem {n : Nat} {k : Int} (hk : 0 ≤ k) : ∀ x ∈ placeL n k, 1 ≤ x ∧ x ≤ 3 := fun x hx => by
  obtain ⟨i, hi, rfl⟩ := List.mem_map.1 hx
  have q1 := Int.tmod_lt_of_pos ((i : Int) + k) (show (0 : Int) < 3 by omega)
  have q2 := Int.tmod_nonneg 3 (show 0 ≤ (i : Int) + k by omega)
  omega
theorem place_loop {b p n : Nat} {k : Int} (hk : 0 ≤ k ∧ k < 256) (hn : n ≤ 1000) (hch : mementoref16_Chunks b (maxI p 1) = some (n : Int)) : mementolaw24_place b p k = some (placeL n k) := by
  unfold mementolaw24_place
  rw [loop_eqF (s := (([] : List Int), (0 : Int))) (fun s => ∃ i : Nat, i ≤ n ∧ s = (placeL i k, (i : Int))) (fun s => n - s.2.toNat) (fun _ => placeL n k) ⟨0, by omega, rfl⟩ (by simp only; omega)]
  · rfl
  rintro _ ⟨i, hi, rfl⟩
  simp only [mementolaw24_place_L1]
  rw [hch, Option.bind_some]
  by_cases c : i < n
  · right
    rw [if_pos (by simpa using c), app_of (by simp [placeL_len]; omega) (by simp [placeL_len]; omega), Option.bind_some, next3 (by omega), wrap64 (n := k) (by omega) (by omega), wrap64 (n := (i : Int) + k) (by omega) (by omega)]
    have q1 := Int.tmod_lt_of_pos ((i : Int) + k) (show (0 : Int) < 3 by omega)
    have q2 := Int.tmod_nonneg 3 (show 0 ≤ (i : Int) + k by omega)
    rw [wrap64 (by omega) (by omega)]
    refine ⟨_, rfl, ⟨i + 1, c, ?_⟩, by simp only [Int.toNat_natCast]; omega, trivial⟩
    simp [placeL, List.range_succ]
  · left
    have : i = n := by omega
    subst this
    rw [if_neg (by simp)]; rfl
theorem place_ok {b p : Nat} {k : Int} (hb : 1 ≤ b) (hb2 : b ≤ 256) (hp : 1 ≤ p) (hp2 : p ≤ 256) (hk : 0 ≤ k ∧ k < 256) : mementolaw24_place b p k = some (placeL ((b + p - 1) / p) k) := by
  have h2 : (b + p - 1) / p ≤ b + p - 1 := Nat.div_le_self _ _
  refine place_loop hk (by omega) ?_
  have e : maxI (p : Int) 1 = (p : Int) := by unfold maxI; rw [if_neg (by omega)]
  rw [e]
  exact chunks_eq hb (by omega) hp (by omega)
theorem clone_ints {l : List Int} (h : l.length ≤ 100000) : slices_Clone_Lint_int l = some l := by
  unfold slices_Clone_Lint_int
  rw [app_of (by simp; omega) (by simp; omega)]; rfl
theorem clone_items {l : List Api_Item} (h : l.length ≤ 100000) : slices_Clone_Lapi_Item_api_Item l = some l := by
  unfold slices_Clone_Lapi_Item_api_Item
  rw [app_of (by simp; omega) (by simp; omega)]; rfl
theorem items_eq {l : List Api_Item} (h : l.length ≤ 100000) (hd : ∀ x ∈ l, x.Data.length ≤ 100000) : intake_items l = some l := by
  unfold intake_items
  rw [clone_items h, Option.bind_some, loop_eqF (s := ((0 : Int), l)) (fun s => ∃ i : Nat, i ≤ l.length ∧ s = ((i : Int), l)) (fun s => l.length - s.1.toNat) (fun _ => l) ⟨0, by omega, rfl⟩ (by simp only; omega)]
  · rfl
  rintro _ ⟨i, hi, rfl⟩
  simp only [intake_items_L1]
  by_cases c : i < l.length
  · right
    rw [if_pos (by simpa using c), idx_at c, Option.bind_some, clone1 (by have := hd _ (List.getElem_mem c); omega), Option.bind_some, updL_nat c, Option.bind_some, next3 (by omega)]
    refine ⟨_, rfl, ⟨i + 1, c, ?_⟩, by simp only [Int.toNat_natCast]; omega, trivial⟩
    rw [show Api_Item.mk l[i].Block l[i].Data = l[i] from rfl, List.set_getElem_self]
  · left
    rw [if_neg (by simpa using c)]; rfl
end Go.Proofs.Ytgdbmgnfaefhoaa.Am
namespace Go.Proofs.Ytgdbmgnfaefhoaa.Am
open Go
set_option linter.unusedVariables false
set_option linter.unusedSimpArgs false
set_option maxRecDepth 100000
theorem or_b {c : Bool} {x : Option Bool} {Q : Prop} (hx : c = false → ∃ y, x = some y ∧ (y = true ↔ Q)) : ∃ z, (if c = true then some true else x) = some z ∧ (z = true ↔ c = true ∨ Q) := by
  cases c
  · obtain ⟨y, h1, h2⟩ := hx rfl
    exact ⟨y, by rw [if_neg (by simp)]; exact h1, by simpa using h2⟩
  · exact ⟨true, by rw [if_pos rfl], by simp⟩
theorem last_b {c : Bool} : ∃ z, some c = some z ∧ (z = true ↔ c = true) := ⟨c, rfl, Iff.rfl⟩
theorem within_v (n a b : Int) : volume_within n a b = some (decide (a ≤ n ∧ n ≤ b)) := by
  unfold volume_within
  by_cases h : n ≥ a
  · rw [if_pos (by simpa using h), Option.bind_some]
    congr 1; simp [h]
  · rw [if_neg (by simpa using h), Option.bind_some]
    congr 1; simp; omega
def okSh (c : Api_VolCmd) : Prop :=
  ((0 ≤ c.Vol ∧ c.Vol < 8) ∧ (1 ≤ c.Blocks ∧ c.Blocks ≤ 256) ∧ (1 ≤ c.Size ∧ c.Size ≤ 32) ∧ (1 ≤ c.Per ∧ c.Per ≤ c.Blocks) ∧ (c.Place.length : Int) = (c.Blocks + c.Per - 1) / c.Per ∧ (0 ≤ c.Total ∧ c.Total ≤ 1099511627776)) ∧ ∀ x ∈ c.Place, 1 ≤ x ∧ x < 8
theorem chunksI {b p : Int} (hb : 1 ≤ b ∧ b ≤ 256) (hp : 1 ≤ p ∧ p ≤ b) : quoI .i64 (IntKind.wrap .i64 ((IntKind.wrap .i64 (b + p)) - 1)) p = some ((b + p - 1) / p) := by
  unfold quoI
  rw [if_neg (by omega), wrap64 (n := b + p) (by omega) (by omega), wrap64 (n := b + p - 1) (by omega) (by omega), Int.tdiv_eq_ediv_of_nonneg (by omega)]
  have h1 : 0 ≤ (b + p - 1) / p := Int.ediv_nonneg (by omega) (by omega)
  have h2 : (b + p - 1) / p ≤ b + p - 1 := Int.ediv_le_self _ (by omega)
  rw [wrap64 (by omega) (by omega)]
theorem shape16_loop {c : Api_VolCmd} (hl : c.Place.length ≤ 100000) : ∃ r, loopN (mementoref16_shape_L1 c) fuel 0 = some r ∧ (r = .go () ∧ (∀ x ∈ c.Place, 1 ≤ x ∧ x < 8) ∨ r = .ret false ∧ ¬ ∀ x ∈ c.Place, 1 ≤ x ∧ x < 8) := by
  refine loop_QF (fun s => ∃ k : Nat, k ≤ c.Place.length ∧ s = (k : Int) ∧ ∀ x ∈ c.Place.take k, 1 ≤ x ∧ x < 8) (fun s => c.Place.length - s.toNat) _ ⟨0, by omega, rfl, by simp⟩ (by simp; omega) ?_
  rintro _ ⟨k, hk, rfl, h⟩
  simp only [mementoref16_shape_L1]
  by_cases q : k < c.Place.length
  · rw [if_pos (by simpa using q), idx_at q, Option.bind_some]
    by_cases q1 : 1 ≤ c.Place[k] ∧ c.Place[k] < 8
    · right
      rw [if_neg (by simp; omega), decide_eq_false (by omega), Option.bind_some, if_neg (by simp), next3 (by omega)]
      refine ⟨_, rfl, ⟨k + 1, q, rfl, fun x hx => ?_⟩, by simp only [Int.toNat_natCast]; omega⟩
      rw [List.take_succ_eq_append_getElem q, List.mem_append, List.mem_singleton] at hx
      rcases hx with hx | rfl
      · exact h x hx
      · exact q1
    · left
      have e : ((if decide (c.Place[k] < 1) = true then some true else some (decide (c.Place[k] ≥ 8))).bind fun t85 => if t85 = true then early (early (some false)) else some (.go (IntKind.wrap .i64 ((k : Int) + 1)))) = (some (.ret (.ret false)) : Option (Ctl (Ctl Bool Unit) Int)) := by
        by_cases q2 : c.Place[k] < 1
        · rw [if_pos (by simpa using q2)]; rfl
        · rw [if_neg (by simpa using q2), decide_eq_true (by omega)]; rfl
      rw [e]
      exact ⟨_, rfl, .inr ⟨rfl, fun hh => q1 (hh _ (List.getElem_mem q))⟩⟩
  · left
    have : k = c.Place.length := by omega
    subst this
    rw [if_neg (by simp)]
    rw [List.take_length] at h
    exact ⟨_, rfl, .inl ⟨rfl, h⟩⟩
theorem shape16_eq {c : Api_VolCmd} (hl : c.Place.length ≤ 100000) : ∃ b, mementoref16_shape c = some b ∧ (b = true ↔ okSh c) := by
  unfold mementoref16_shape
  obtain ⟨z, hz, hq⟩ := or_b (c := decide (c.Vol < 0)) fun h1 => or_b (c := decide (c.Vol ≥ 8)) fun h2 => or_b (c := decide (c.Blocks < 1)) fun h3 => or_b (c := decide (c.Blocks > 256)) fun h4 => or_b (c := decide (c.Size < 1)) fun h5 => or_b (c := decide (c.Size > 32)) fun h6 =>
    or_b (c := decide (c.Per < 1)) fun h7 => or_b (c := decide (c.Per > c.Blocks)) fun h8 => (show ∃ y, ((mementoref16_Chunks c.Blocks c.Per).bind fun y => (if ((c.Place.length : Int) != y) then (some true) else (if (decide (c.Total < 0)) then (some true) else (some (decide (c.Total > 1099511627776)))))) = some y ∧ (y = true ↔ ((c.Place.length : Int) != (c.Blocks + c.Per - 1) / c.Per) = true ∨ decide (c.Total < 0) = true ∨ decide (c.Total > 1099511627776) = true) from by
      simp only [decide_eq_false_iff_not] at h1 h2 h3 h4 h5 h6 h7 h8
      unfold mementoref16_Chunks
      rw [chunksI ⟨by omega, by omega⟩ ⟨by omega, by omega⟩, Option.bind_some, Option.bind_some]
      exact or_b fun _ => or_b fun _ => last_b)
  rw [hz, Option.bind_some]
  simp only [decide_eq_true_eq, bne_iff_ne] at hq
  unfold okSh
  cases z
  · have h0 : ¬ _ := fun h => absurd (hq.2 h) (by simp)
    obtain ⟨r, hr, h⟩ := shape16_loop hl
    rw [if_neg (by simp), hr]
    rcases h with ⟨rfl, h⟩ | ⟨rfl, h⟩
    · refine ⟨true, rfl, fun _ => ⟨?_, h⟩, fun _ => rfl⟩
      refine ⟨?_, ?_, ?_, ?_, ?_, ?_⟩ <;> first | omega | (apply Classical.byContradiction; intro hc; apply h0; omega)
    · exact ⟨false, rfl, fun q => by simp at q, fun q => absurd q.2 h⟩
  · rw [if_pos rfl]
    have h1 := hq.1 rfl
    refine ⟨false, rfl, fun q => by simp at q, fun q => ?_⟩
    obtain ⟨⟨q1, q2, q3, q4, q5, q6⟩, _⟩ := q
    exfalso
    rcases h1 with h1 | h1 | h1 | h1 | h1 | h1 | h1 | h1 | h1 | h1 | h1 <;> omega
theorem contains_eq {l : List Int} {f : Int → Option Bool} {g : Int → Bool} (hl : l.length ≤ 100000) (hf : ∀ x ∈ l, f x = some (g x)) : ∃ b, slices_ContainsFunc_Lint_int l f = some b ∧ (b = true ↔ ∃ x ∈ l, g x = true) := by
  obtain ⟨r, hr, h⟩ := loop_QF (b := slices_IndexFunc_Lint_int_L1 l f) (s := (0 : Int)) (fun s => ∃ k : Nat, k ≤ l.length ∧ s = (k : Int) ∧ ∀ x ∈ l.take k, g x = false) (fun s => l.length - s.toNat)
    (fun r => (r = .go () ∧ ∀ x ∈ l, g x = false) ∨ ∃ k : Nat, r = .ret (k : Int) ∧ ∃ x ∈ l, g x = true) ⟨0, by omega, rfl, by simp⟩ (by simp; omega) (by
    rintro _ ⟨k, hk, rfl, h⟩
    simp only [slices_IndexFunc_Lint_int_L1]
    by_cases q : k < l.length
    · rw [if_pos (by simpa using q), idx_at q, Option.bind_some, hf _ (List.getElem_mem q), Option.bind_some]
      cases hg : g l[k]
      · right
        rw [if_neg (by simp), next3 (by omega)]
        refine ⟨_, rfl, ⟨k + 1, q, rfl, fun x hx => ?_⟩, by simp only [Int.toNat_natCast]; omega⟩
        rw [List.take_succ_eq_append_getElem q, List.mem_append, List.mem_singleton] at hx
        rcases hx with hx | rfl
        · exact h x hx
        · exact hg
      · left
        rw [if_pos rfl]
        exact ⟨_, rfl, .inr ⟨k, rfl, _, List.getElem_mem q, hg⟩⟩
    · left
      have : k = l.length := by omega
      subst this
      rw [if_neg (by simp)]
      rw [List.take_length] at h
      exact ⟨_, rfl, .inl ⟨rfl, h⟩⟩)
  unfold slices_ContainsFunc_Lint_int slices_IndexFunc_Lint_int
  rw [hr]
  rcases h with ⟨rfl, h⟩ | ⟨k, rfl, h⟩
  · rw [kont_go', Option.bind_some]
    exact ⟨_, rfl, fun q => by simp at q, fun ⟨x, hx, hg⟩ => by rw [h x hx] at hg; simp at hg⟩
  · rw [kont_ret, Option.bind_some]
    exact ⟨_, rfl, fun _ => h, fun _ => by simp⟩
theorem nor_b {c : Bool} {x : Option Bool} {Q : Prop} (hx : c = true → ∃ y, x = some y ∧ (y = true ↔ Q)) : ∃ z, (if (!c) = true then some true else x) = some z ∧ (z = true ↔ c = false ∨ Q) := by
  cases c
  · exact ⟨true, rfl, by simp⟩
  · obtain ⟨y, h1, h2⟩ := hx rfl
    exact ⟨y, by rw [if_neg (by simp)]; exact h1, by simpa using h2⟩
theorem shapeV_eq {v : Api_Volume} {c : Api_VolCmd} (h1 : c.Vol = v.Id) (h2 : c.Blocks = v.Blocks) (h3 : c.Size = v.Size) (h4 : c.Per = v.Per) (h5 : c.Place = v.Place) (h6 : c.Total = v.Total) (hl : v.Place.length ≤ 100000) :
    ∃ b, volume_shape v = some b ∧ (b = true ↔ okSh c) := by
  unfold volume_shape okSh
  rw [h1, h2, h3, h4, h5, h6]
  simp only [within_v, Option.bind_some]
  obtain ⟨z, hz, hq⟩ := nor_b (c := decide (0 ≤ v.Id ∧ v.Id ≤ 7)) fun h1 => nor_b (c := decide (1 ≤ v.Blocks ∧ v.Blocks ≤ 256)) fun h2 => nor_b (c := decide (1 ≤ v.Size ∧ v.Size ≤ 32)) fun h3 => nor_b (c := decide (1 ≤ v.Per ∧ v.Per ≤ v.Blocks)) fun h4 =>
    (show ∃ y, ((quoI .i64 (IntKind.wrap .i64 ((IntKind.wrap .i64 (v.Blocks + v.Per)) - 1)) v.Per).bind fun x => (if ((v.Place.length : Int) != x) then (some true) else (some (!decide (0 ≤ v.Total ∧ v.Total ≤ 1099511627776))))) = some y ∧ (y = true ↔ ((v.Place.length : Int) != (v.Blocks + v.Per - 1) / v.Per) = true ∨ (!decide (0 ≤ v.Total ∧ v.Total ≤ 1099511627776)) = true) from by
      simp only [decide_eq_true_eq] at h1 h2 h3 h4
      rw [chunksI h2 h4, Option.bind_some]
      exact or_b fun _ => last_b)
  rw [hz, Option.bind_some]
  simp only [decide_eq_true_eq, decide_eq_false_iff_not, bne_iff_ne, Bool.not_eq_true', ] at hq
  cases z
  · have h0 : ¬ _ := fun h => absurd (hq.2 h) (by simp)
    obtain ⟨b, hb, hbq⟩ := contains_eq (l := v.Place) (f := fun z0 => volume_shape_1 z0) (g := fun x => !decide (1 ≤ x ∧ x ≤ 7)) hl (fun x _ => by unfold volume_shape_1; rw [within_v, Option.bind_some])
    rw [if_neg (by simp), hb, Option.bind_some]
    have h9 : (∃ x ∈ v.Place, (!decide (1 ≤ x ∧ x ≤ 7)) = true) ↔ ¬ ∀ x ∈ v.Place, 1 ≤ x ∧ x < 8 := by
      constructor
      · rintro ⟨x, hx, h⟩ hh
        have := hh x hx
        simp at h; omega
      · intro h
        apply Classical.byContradiction
        intro hc
        exact h fun x hx => by
          apply Classical.byContradiction
          intro hx2
          exact hc ⟨x, hx, by simp; omega⟩
    rw [h9] at hbq
    refine ⟨!b, rfl, ?_⟩
    cases b
    · have q : ∀ x ∈ v.Place, 1 ≤ x ∧ x < 8 := Classical.byContradiction fun hc => absurd (hbq.2 hc) (by simp)
      refine ⟨fun _ => ⟨?_, q⟩, fun _ => rfl⟩
      refine ⟨?_, ?_, ?_, ?_, ?_, ?_⟩ <;> (apply Classical.byContradiction; intro hc; apply h0; omega)
    · exact ⟨fun q => by simp at q, fun q => absurd q.2 (hbq.1 rfl)⟩
  · rw [if_pos rfl]
    have h1 := hq.1 rfl
    refine ⟨false, rfl, fun q => by simp at q, fun q => ?_⟩
    obtain ⟨⟨q1, q2, q3, q4, q5, q6⟩, _⟩ := q
    exfalso
    rcases h1 with h1 | h1 | h1 | h1 | h1 | h1 <;> omega
def newV (c : Api_VolCmd) : Api_Volume := ⟨c.Vol, c.Blocks, c.Size, c.Per, c.Place, c.Total, 0, decide (c.Total > 0), 0, [], []⟩
def noV : Api_Volume := ⟨0, 0, 0, 0, [], 0, 0, false, 0, [], []⟩
theorem new_same {c : Api_VolCmd} (hl : c.Place.length ≤ 100000) : (okSh c ∧ volume_New c = some (newV c, 0) ∧ mementoref16_New c = some (newV c, 0)) ∨ (¬ okSh c ∧ volume_New c = some (noV, 23) ∧ mementoref16_New c = some (noV, 23)) := by
  obtain ⟨b, hb, hq⟩ := shape16_eq hl
  obtain ⟨b', hb', hq'⟩ := shapeV_eq (v := newV c) (c := c) rfl rfl rfl rfl rfl rfl hl
  have e : b' = b := by
    cases b <;> cases b'
    · rfl
    · exact absurd (hq.2 (hq'.1 rfl)) (by simp)
    · exact absurd (hq'.2 (hq.1 rfl)) (by simp)
    · rfl
  subst e
  unfold volume_New mementoref16_New
  rw [clone_ints hl, Option.bind_some, hb, show Api_Volume.mk c.Vol c.Blocks c.Size c.Per c.Place c.Total 0 (decide (c.Total > 0)) 0 [] [] = newV c from rfl, hb', Option.bind_some, Option.bind_some]
  cases b'
  · exact .inr ⟨fun h => absurd (hq.2 h) (by simp), rfl, rfl⟩
  · refine .inl ⟨hq.1 rfl, rfl, ?_⟩
    rw [if_neg (by simp), app_of (by simp; omega) (by simp; omega)]
    rfl
end Go.Proofs.Ytgdbmgnfaefhoaa.Am
namespace Go.Proofs.Ytgdbmgnfaefhoaa.Am
open Go
set_option linter.unusedVariables false
set_option linter.unusedSimpArgs false
set_option maxRecDepth 100000
open Classical
def crC (s : Api_Stream) (vol per : Int) (place : List Int) (n : Int) : Api_VolCmd := ⟨1, vol, s.Blocks, s.Size, per, place, (s.Blocks + n - 1) / n, 0, 0, []⟩
def impC (s : Api_Stream) (vol : Int) (N i : Nat) : Api_VolCmd := ⟨6, vol, 0, 0, 0, [], 0, 0, (i : Int), (s.Items.take (i * N + N)).drop (i * N)⟩
def pubC (vol : Int) : Api_VolCmd := ⟨7, vol, 0, 0, 0, [], 0, 0, 0, []⟩
def totN (s : Api_Stream) (n : Int) : Nat := ((s.Blocks + n - 1) / n).toNat
def planL (s : Api_Stream) (vol per : Int) (place : List Int) (n : Int) : List Api_VolCmd := crC s vol per place n :: (List.range (totN s n)).map (impC s vol n.toNat) ++ [pubC vol]
def okPl (s : Api_Stream) (vol per : Int) (place : List Int) (n : Int) : Prop := SRt s ∧ 1 ≤ n ∧ n ≤ 8 ∧ okSh (crC s vol per place n) ∧ s.From < 0
theorem tot_eq {b n : Int} (hb : 1 ≤ b ∧ b ≤ 256) (hn : 1 ≤ n ∧ n ≤ 8) : quoI .i64 (IntKind.wrap .i64 ((IntKind.wrap .i64 (b + n)) - 1)) n = some ((b + n - 1) / n) := by
  unfold quoI
  rw [if_neg (by omega), wrap64 (n := b + n) (by omega) (by omega), wrap64 (n := b + n - 1) (by omega) (by omega), Int.tdiv_eq_ediv_of_nonneg (by omega)]
  have h1 : 0 ≤ (b + n - 1) / n := Int.ediv_nonneg (by omega) (by omega)
  have h2 : (b + n - 1) / n ≤ b + n - 1 := Int.ediv_le_self _ (by omega)
  rw [wrap64 (by omega) (by omega)]
theorem tot_nat {s : Api_Stream} {n : Int} (hb : 1 ≤ s.Blocks ∧ s.Blocks ≤ 256) (hn : 1 ≤ n ∧ n ≤ 8) : (s.Blocks + n - 1) / n = (totN s n : Int) ∧ totN s n ≤ 263 ∧ 1 ≤ totN s n ∧ s.Blocks ≤ ((totN s n * n.toNat : Nat) : Int) ∧ ∀ i, i < totN s n → ((i * n.toNat : Nat) : Int) < s.Blocks := by
  obtain ⟨B, hB⟩ := Int.eq_ofNat_of_zero_le (show 0 ≤ s.Blocks by omega)
  obtain ⟨N, hN⟩ := Int.eq_ofNat_of_zero_le (show 0 ≤ n by omega)
  have e : (s.Blocks + n - 1) / n = (((B + N - 1) / N : Nat) : Int) := by
    rw [hB, hN, show (B : Int) + N - 1 = ((B + N - 1 : Nat) : Int) by omega]; exact (Int.natCast_ediv _ _).symm
  have et : totN s n = (B + N - 1) / N := by unfold totN; rw [e]; rfl
  have h2 : (B + N - 1) / N ≤ B + N - 1 := Nat.div_le_self _ _
  have h3 := Nat.div_mul_le_self (B + N - 1) N
  have h4 := Nat.lt_div_mul_add (a := B + N - 1) (b := N) (by omega)
  have h5 : 1 ≤ (B + N - 1) / N := (Nat.le_div_iff_mul_le (by omega)).2 (by omega)
  rw [et, e, hN, Int.toNat_natCast]
  refine ⟨rfl, by omega, h5, by omega, fun i hi => ?_⟩
  have h6 : (i + 1) * N ≤ (B + N - 1) / N * N := Nat.mul_le_mul_right _ hi
  rw [Nat.add_mul] at h6
  omega
theorem take_min {α : Type} (l : List α) (k : Nat) : l.take (min k l.length) = l.take k := by
  rcases Nat.le_total k l.length with h | h
  · rw [Nat.min_eq_left h]
  · rw [Nat.min_eq_right h, List.take_length, List.take_of_length_le h]
theorem minI_nat (a b : Nat) : minI (a : Int) (b : Int) = ((min a b : Nat) : Int) := by
  unfold minI; split <;> omega
theorem plan_same {s : Api_Stream} {vol per n : Int} {place : List Int} (hl : s.Items.length ≤ 100000) (hd : ∀ x ∈ s.Items, x.Data.length ≤ 100000) (hp : place.length ≤ 100000) :
    (okPl s vol per place n ∧ intake_Plan s vol per place n = some (planL s vol per place n, 0) ∧ mementoref23_Plan s vol per place n = some (planL s vol per place n, 0)) ∨
    (¬ okPl s vol per place n ∧ ∃ e, e ≠ 0 ∧ intake_Plan s vol per place n = some ([], e) ∧ mementoref23_Plan s vol per place n = some ([], e)) := by
  unfold intake_Plan mementoref23_Plan
  rw [right_eq hl, refright_eq hl, Option.bind_some]
  by_cases h1 : SRt s ∧ 1 ≤ n ∧ n ≤ 8
  rotate_left
  · right
    refine ⟨fun h => h1 ⟨h.1, h.2.1, h.2.2.1⟩, 23, by omega, ?_⟩
    have e : ∀ x : Bool, (if (!decide (SRt s)) = true then some true else (if decide (n < 1) = true then some true else some (decide (n > 8)))) = some true := fun _ => by
      by_cases q : SRt s
      · rw [if_neg (by simpa using q)]
        by_cases q2 : n < 1
        · rw [if_pos (by simpa using q2)]
        · rw [if_neg (by simpa using q2), decide_eq_true (by apply Classical.byContradiction; intro hc; exact h1 ⟨q, by omega, by omega⟩)]
      · rw [if_pos (by simpa using q)]
    rw [e true]
    exact ⟨rfl, rfl⟩
  obtain ⟨hs, hn1, hn8⟩ := h1
  obtain ⟨N, rfl⟩ := Int.eq_ofNat_of_zero_le (show 0 ≤ n by omega)
  obtain ⟨hb, hsz, hf1, hf2, hto, hto2, hlen⟩ := hs.1
  obtain ⟨t1, t2, t3, t4, t5⟩ := tot_nat hb ⟨hn1, hn8⟩
  rw [if_neg (by simpa using hs), if_neg (by simp; omega), decide_eq_false (by omega), Option.bind_some, if_neg (by simp), Option.bind_some, if_neg (by simp), tot_eq hb ⟨hn1, hn8⟩, Option.bind_some, clone_ints hp, Option.bind_some, app_of (by simp; omega) (by simp; omega), Option.bind_some, List.nil_append]
  have ech : mementoref16_Chunks s.Blocks N = some ((s.Blocks + N - 1) / N) := by unfold mementoref16_Chunks; rw [tot_eq hb ⟨hn1, hn8⟩, Option.bind_some]
  have eC : Api_VolCmd.mk 1 vol s.Blocks s.Size per place ((s.Blocks + N - 1) / N) 0 0 [] = crC s vol per place N := rfl
  have ei : ∀ c : Api_VolCmd, idx [c] 0 = some c := fun c => rfl
  rw [ech, Option.bind_some, eC, ei, Option.bind_some]
  rcases new_same (c := crC s vol per place N) hp with ⟨ok, e1, e2⟩ | ⟨nok, e1, e2⟩
  rotate_left
  · right
    refine ⟨fun h => nok h.2.2.2.1, 23, by omega, ?_, ?_⟩
    · rw [e1]; rfl
    · rw [e2]; rfl
  rw [e1, e2, Option.bind_some, Option.bind_some]
  simp only
  rw [if_neg (show ¬ (((0 : Int) != 0) = true) by simp), if_neg (show ¬ (((0 : Int) != 0) = true) by simp)]
  by_cases hf : 0 ≤ s.From
  · right
    refine ⟨fun h => by have := h.2.2.2.2; omega, 38, by omega, ?_, ?_⟩
    · rw [if_pos (by simpa using hf)]
    · rw [if_pos (by simpa using hf)]
  left
  rw [if_neg (by simp; omega), if_neg (by simp; omega), t1]
  have hlB := hlen (by omega)
  have hNt : (N : Int).toNat = N := by omega
  rw [hNt] at t4 t5
  obtain ⟨T, hT⟩ : ∃ T, totN s N = T := ⟨_, rfl⟩
  rw [hT] at t2 t3 t4 t5 ⊢
  have hlast : crC s vol per place N :: (List.range T).map (impC s vol N) ++ [pubC vol] = planL s vol per place N := by unfold planL; rw [hNt, hT]
  have slices : ∀ i, i < T → slc s.Items ((i * N : Nat) : Int) (((min (i * N + N) s.Items.length : Nat)) : Int) = some (impC s vol N i).Items := fun i hi => by
    have := t5 i hi
    rw [slc_nat _ (by omega) (by omega), take_min]; rfl
  have mul_i : ∀ i, i ≤ T → i * N ≤ 3000 := fun i hi => Nat.le_trans (Nat.mul_le_mul (show i ≤ 263 by omega) (show N ≤ 8 by omega)) (by omega)
  have L1 : loopN (intake_Plan_L1 s vol N T) fuel ([crC s vol per place N], 0) = some (crC s vol per place N :: (List.range T).map (impC s vol N)) := by
    refine loop_eqF (fun q : List Api_VolCmd × Int => ∃ i : Nat, i ≤ T ∧ q = (crC s vol per place N :: (List.range i).map (impC s vol N), (i : Int))) (fun q => T - q.2.toNat) (fun _ => crC s vol per place N :: (List.range T).map (impC s vol N)) ⟨0, by omega, rfl⟩ (by simp only; omega) ?_
    rintro _ ⟨i, hi, rfl⟩
    simp only [intake_Plan_L1]
    by_cases q : i < T
    · right
      have m := mul_i i hi
      have e0 : IntKind.wrap .i64 ((i : Int) * N) = ((i * N : Nat) : Int) := by rw [show (i : Int) * (N : Int) = ((i * N : Nat) : Int) by simp, wrap64 (by omega) (by omega)]
      rw [if_pos (by simpa using q), e0, wrap64 (n := ((i * N : Nat) : Int) + (N : Int)) (by omega) (by omega), show ((i * N : Nat) : Int) + (N : Int) = ((i * N + N : Nat) : Int) by omega, ← hlB, minI_nat, slices i q, Option.bind_some,
        items_eq (l := (impC s vol N i).Items) (by unfold impC; simp only [List.length_drop, List.length_take]; omega) (fun x hx => hd x (List.mem_of_mem_take (List.mem_of_mem_drop hx))), Option.bind_some, app_of (by simp; omega) (by simp; omega), Option.bind_some, next3 (by omega)]
      refine ⟨_, rfl, ⟨i + 1, q, ?_⟩, by simp only [Int.toNat_natCast]; omega, trivial⟩
      rw [List.range_succ, List.map_append, List.map_singleton, List.cons_append]; rfl
    · left
      have : i = T := by omega
      subst this
      rw [if_neg (by simp)]; rfl
  have L2 : loopN (mementoref23_Plan_L1 s vol N T) fuel ([crC s vol per place N], 0) = some (crC s vol per place N :: (List.range T).map (impC s vol N)) := by
    refine loop_eqF (fun q : List Api_VolCmd × Int => ∃ i : Nat, i ≤ T ∧ q = (crC s vol per place N :: (List.range i).map (impC s vol N), (i : Int))) (fun q => T - q.2.toNat) (fun _ => crC s vol per place N :: (List.range T).map (impC s vol N)) ⟨0, by omega, rfl⟩ (by simp only; omega) ?_
    rintro _ ⟨i, hi, rfl⟩
    simp only [mementoref23_Plan_L1]
    by_cases q : i < T
    · right
      have m := mul_i i hi
      have m2 := mul_i (i + 1) q
      have e0 : IntKind.wrap .i64 ((i : Int) * N) = ((i * N : Nat) : Int) := by rw [show (i : Int) * (N : Int) = ((i * N : Nat) : Int) by simp, wrap64 (by omega) (by omega)]
      have e1 : IntKind.wrap .i64 (IntKind.wrap .i64 ((i : Int) + 1) * N) = ((i * N + N : Nat) : Int) := by
        rw [next3 (by omega), show ((i + 1 : Nat) : Int) * (N : Int) = (((i + 1) * N : Nat) : Int) by simp, wrap64 (by omega) (by omega), Nat.add_mul, Nat.one_mul]
      rw [if_pos (by simpa using q), e0, e1, minI_nat, slices i q, Option.bind_some, app_of (by simp; omega) (by simp; omega), Option.bind_some, next3 (by omega)]
      refine ⟨_, rfl, ⟨i + 1, q, ?_⟩, by simp only [Int.toNat_natCast]; omega, trivial⟩
      rw [List.range_succ, List.map_append, List.map_singleton, List.cons_append]; rfl
    · left
      have : i = T := by omega
      subst this
      rw [if_neg (by simp)]; rfl
  refine ⟨⟨hs, hn1, hn8, ok, by omega⟩, ?_, ?_⟩
  · rw [L1, Option.bind_some, app_of (by simp; omega) (by simp; omega), Option.bind_some, show Api_VolCmd.mk 7 vol 0 0 0 [] 0 0 0 [] = pubC vol from rfl, hlast]
  · rw [L2, Option.bind_some, app_of (by simp; omega) (by simp; omega), Option.bind_some, show Api_VolCmd.mk 7 vol 0 0 0 [] 0 0 0 [] = pubC vol from rfl, hlast]
end Go.Proofs.Ytgdbmgnfaefhoaa.Am
namespace Go.Proofs.Ytgdbmgnfaefhoaa.Am
open Go
set_option linter.unusedVariables false
set_option linter.unusedSimpArgs false
set_option maxRecDepth 100000
theorem plan_len (s : Api_Stream) (vol per : Int) (place : List Int) (n : Int) : (planL s vol per place n).length = totN s n + 2 := by simp [planL]
theorem mod8 {a : Int} (h : 0 ≤ a ∧ a < 256) : IntKind.wrap .i64 (Int.tmod a 8) = a % 8 := by
  rw [Int.tmod_eq_emod_of_nonneg h.1, wrap64 (by omega) (by omega)]
theorem mod81 {a : Int} (h : 0 ≤ a ∧ a < 256) : IntKind.wrap .i64 (IntKind.wrap .i64 (Int.tmod a 8) + 1) = a % 8 + 1 := by
  rw [mod8 h, wrap64 (by omega) (by omega)]
theorem okPl_of {s : Api_Stream} (h : WI s) {vol n : Int} {p : Nat} {k : Int} (hv : 0 ≤ vol ∧ vol < 8) (hp : 1 ≤ p ∧ (p : Int) ≤ s.Blocks) (hn : 1 ≤ n ∧ n ≤ 8) (hk : 0 ≤ k) : okPl s vol p (placeL ((s.Blocks.toNat + p - 1) / p) k) n := by
  have hb := h.blocks
  have hs := h.size
  obtain ⟨t1, t2, t3, _, _⟩ := tot_nat (s := s) (n := n) ⟨by omega, by omega⟩ hn
  refine ⟨h.srt, hn.1, hn.2, ⟨⟨hv, ⟨hb.1, by show s.Blocks ≤ 256; omega⟩, ⟨hs.1, by show s.Size ≤ 32; omega⟩, ⟨by show 1 ≤ (p : Int); omega, hp.2⟩, ?_, ?_⟩, fun x hx => ?_⟩, by rw [h.from_]; omega⟩
  · show ((placeL _ k).length : Int) = (s.Blocks + p - 1) / p
    obtain ⟨B, hB⟩ := Int.eq_ofNat_of_zero_le (show 0 ≤ s.Blocks by omega)
    rw [placeL_len, hB, Int.toNat_natCast, show (B : Int) + p - 1 = ((B + p - 1 : Nat) : Int) by omega]
    exact Int.natCast_ediv _ _
  · show 0 ≤ (s.Blocks + n - 1) / n ∧ (s.Blocks + n - 1) / n ≤ 1099511627776
    rw [t1]; omega
  · have := placeL_mem hk x hx
    omega
theorem WI.data {s : Api_Stream} (h : WI s) : s.Items.length ≤ 9 ∧ ∀ x ∈ s.Items, x.Data.length ≤ 3 := by
  refine ⟨by have := h.len; have := h.blocks; omega, fun x hx => ?_⟩
  obtain ⟨i, hi, rfl⟩ := List.getElem_of_mem hx
  have := (h.it i hi).2.1
  have := h.size
  omega
theorem law_plan {s : Api_Stream} (h : WI s) {a1 : Int} (h1 : 0 ≤ a1 ∧ a1 < 256) : ∃ p : Nat, 1 ≤ p ∧ (p : Int) ≤ s.Blocks ∧ remI (IntKind.wrap .i64 a1) s.Blocks = some ((p : Int) - 1) ∧ IntKind.wrap .i64 ((p : Int) - 1 + 1) = (p : Int) ∧
    ∀ k : Int, 0 ≤ k → k < 256 → mementolaw24_place s.Blocks p k = some (placeL ((s.Blocks.toNat + p - 1) / p) k) := by
  have hb := h.blocks
  obtain ⟨q, hq, e⟩ := remJ (a := a1) (b := s.Blocks) ⟨h1.1, by omega⟩ hb.1 (by omega)
  obtain ⟨B, hB⟩ := Int.eq_ofNat_of_zero_le (show 0 ≤ s.Blocks by omega)
  refine ⟨q + 1, by omega, by omega, by rw [e]; congr 1; omega, by rw [wrap64 (by omega) (by omega)]; omega, fun k k1 k2 => ?_⟩
  rw [hB, Int.toNat_natCast]
  exact place_ok (by omega) (by omega) (by omega) (by omega) ⟨k1, k2⟩
theorem known24 : mementolaw24_known = some true := by kernel_rfl
end Go.Proofs.Ytgdbmgnfaefhoaa.Am
namespace Go.Proofs.Ytgdbmgnfaefhoaa.Am
open Go
set_option linter.unusedVariables false
set_option linter.unusedSimpArgs false
set_option maxRecDepth 100000
theorem byt8 {l : List Int} (h : ∀ x ∈ l, Ik .u8 x) : Byt l := fun x hx => (h x hx).u8
end Go.Proofs.Ytgdbmgnfaefhoaa.Am
namespace Go.Proofs.Ytgdbmgnfaefhoaa.Am
open Go
set_option linter.unusedVariables false
set_option linter.unusedSimpArgs false
set_option maxRecDepth 100000
theorem plan_at {s : Api_Stream} {vol per n : Int} {place : List Int} {j : Nat} (h : j < totN s n) : idx (planL s vol per place n) ((j + 1 : Nat) : Int) = some (impC s vol n.toNat j) := by
  rw [idx_nat]
  unfold planL
  rw [List.getElem?_append_left (by simp; omega), List.getElem?_cons_succ, List.getElem?_map, List.getElem?_range h]
  rfl
theorem plan_first {s : Api_Stream} {vol per n : Int} {place : List Int} : idx (planL s vol per place n) 0 = some (crC s vol per place n) := rfl
theorem plan_end {s : Api_Stream} {vol per n : Int} {place : List Int} : idx (planL s vol per place n) ((totN s n + 1 : Nat) : Int) = some (pubC vol) := by
  rw [idx_nat]
  unfold planL
  rw [List.getElem?_append_right (by simp)]
  simp
theorem imp_len {s : Api_Stream} {vol : Int} {N j : Nat} (h : j * N < s.Items.length) : (impC s vol N j).Items.length = min N (s.Items.length - j * N) := by
  simp only [impC, List.length_drop, List.length_take]
  omega
theorem imp_at {s : Api_Stream} {vol : Int} {N j k : Nat} (h : k < (impC s vol N j).Items.length) : ∃ h2 : j * N + k < s.Items.length, (impC s vol N j).Items[k] = s.Items[j * N + k] := by
  have hk : j * N + k < s.Items.length := by
    simp only [impC, List.length_drop, List.length_take] at h
    omega
  refine ⟨hk, ?_⟩
  simp only [impC, List.getElem_drop, List.getElem_take]
theorem plan_of {s : Api_Stream} (wi : WI s) {p : Nat} {vol n k : Int} (hp : 1 ≤ p ∧ (p : Int) ≤ s.Blocks) (hv : 0 ≤ vol ∧ vol < 8) (hn : 1 ≤ n ∧ n ≤ 8) (hk : 0 ≤ k ∧ k < 256) :
    intake_Plan s vol p (placeL ((s.Blocks.toNat + p - 1) / p) k) n = some (planL s vol p (placeL ((s.Blocks.toNat + p - 1) / p) k) n, 0) := by
  have hb := wi.blocks
  have hd := wi.data
  have hpl : (placeL ((s.Blocks.toNat + p - 1) / p) k).length ≤ 100000 := by
    rw [placeL_len]
    have := Nat.div_le_self (s.Blocks.toNat + p - 1) p
    omega
  rcases plan_same (s := s) (vol := vol) (per := p) (n := n) (place := placeL ((s.Blocks.toNat + p - 1) / p) k) (by omega) (fun x hx => by have := hd.2 x hx; omega) hpl with ⟨_, e1, _⟩ | ⟨q, _⟩
  · exact e1
  · exact absurd (okPl_of wi hv hp hn hk.1) q
theorem counts_L2 {s : Api_Stream} (wi : WI s) {vol per n : Int} {place : List Int} (hn : 1 ≤ n ∧ n ≤ 8) {j : Nat} (hj : j < totN s n) :
    loopN (mementolaw24_IntakeCounts_L2 s (planL s vol per place n) ((j + 1 : Nat) : Int)) fuel (((j * n.toNat : Nat) : Int), 0) = some (.go ((j * n.toNat + (impC s vol n.toNat j).Items.length : Nat) : Int)) := by
  have hb := wi.blocks
  obtain ⟨N, hN⟩ : ∃ N, n.toNat = N := ⟨_, rfl⟩
  rw [hN]
  have hdl := wi.data
  refine loop_eqF (fun q : Int × Int => ∃ k : Nat, k ≤ (impC s vol N j).Items.length ∧ q = (((j * N + k : Nat) : Int), (k : Int))) (fun q => (impC s vol N j).Items.length - q.2.toNat) (fun _ => Ctl.go ((j * N + (impC s vol N j).Items.length : Nat) : Int)) ⟨0, by omega, rfl⟩ ?_ ?_
  · have : (impC s vol N j).Items.length ≤ s.Items.length := by simp only [impC, List.length_drop, List.length_take]; omega
    simp only; omega
  rintro _ ⟨k, hk, rfl⟩
  simp only [mementolaw24_IntakeCounts_L2]
  rw [plan_at hj, hN, Option.bind_some]
  by_cases q : k < (impC s vol N j).Items.length
  · right
    obtain ⟨h2, e⟩ := imp_at q
    obtain ⟨i1, i2, i3⟩ := wi.it _ h2
    rw [if_pos (by simpa using q), idx_at q, Option.bind_some, e, i1, if_neg (by simp), idx_at h2, Option.bind_some, Option.bind_some, if_neg (by simp), next3 (by omega), next3 (by omega)]
    exact ⟨_, rfl, ⟨k + 1, q, rfl⟩, by simp only [Int.toNat_natCast]; omega, trivial⟩
  · left
    have : k = (impC s vol N j).Items.length := by omega
    subst this
    rw [if_neg (by simp)]; rfl
theorem intakeCounts_eq {a0 : List Int} {a1 a2 a3 : Int} (h0 : Byt a0) (h1 : 0 ≤ a1 ∧ a1 < 256) (h2 : 0 ≤ a2 ∧ a2 < 256) (h3 : 0 ≤ a3 ∧ a3 < 256) : mementolaw24_IntakeCounts a0 a1 a2 a3 = some true := by
  unfold mementolaw24_IntakeCounts
  rw [known24, Option.bind_some, if_neg (by simp)]
  by_cases c0 : (a0.length : Int) > 60
  · rw [if_pos (by simpa using c0)]
  rw [if_neg (by simpa using c0)]
  obtain ⟨s, hs, wi⟩ := whole_ok (a0 := a0) (by omega) h0
  obtain ⟨p, p1, p2, p3, p4, p5⟩ := law_plan wi h1
  have hb := wi.blocks
  have hl := wi.len
  rw [hs, Option.bind_some, p3, Option.bind_some, p4, p5 a3 h3.1 h3.2, Option.bind_some, mod8 h3, mod81 h2, plan_of wi ⟨p1, p2⟩ (by omega) (by omega) h3, Option.bind_some]
  simp only
  generalize hpl : placeL ((s.Blocks.toNat + p - 1) / p) a3 = pl
  obtain ⟨n, hn⟩ : ∃ n, a2 % 8 + 1 = n := ⟨_, rfl⟩
  have hn8 : 1 ≤ n ∧ n ≤ 8 := by omega
  rw [hn]
  obtain ⟨t1, t2, t3, t4, t5⟩ := tot_nat (s := s) (n := n) ⟨by omega, by omega⟩ hn8
  rw [if_neg (by simp), tot_eq ⟨by omega, by omega⟩ hn8, Option.bind_some, t1, plan_len, wrap64 (n := (2 : Int) + (totN s n : Int)) (by omega) (by omega), if_neg (by simp; omega), plan_first, Option.bind_some,
    show (crC s (a3 % 8) (↑p) pl n).Total = (totN s n : Int) from t1, wrap64 (n := ((totN s n + 2 : Nat) : Int) - 2) (by omega) (by omega), show ((totN s n + 2 : Nat) : Int) - 2 = (totN s n : Int) by omega, Option.bind_some, if_neg (by simp)]
  obtain ⟨N, hN⟩ : ∃ N, n.toNat = N := ⟨_, rfl⟩
  rw [hN] at t4 t5
  have L1 : loopN (mementolaw24_IntakeCounts_L1 a2 a3 s (planL s (a3 % 8) p pl n)) fuel (0, 1) = some (.go s.Blocks) := by
    refine loop_eqF (fun q : Int × Int => ∃ j : Nat, j ≤ totN s n ∧ q = (((min (j * N) s.Items.length : Nat) : Int), ((j + 1 : Nat) : Int))) (fun q => totN s n + 1 - q.2.toNat) (fun _ => Ctl.go s.Blocks) ⟨0, by omega, by simp⟩ (by simp only; omega) ?_
    rintro _ ⟨j, hj, rfl⟩
    simp only [mementolaw24_IntakeCounts_L1]
    rw [plan_len, wrap64 (n := ((totN s n + 2 : Nat) : Int) - 1) (by omega) (by omega)]
    by_cases q : j < totN s n
    · right
      have hjN := t5 j q
      have hjl : j * N < s.Items.length := by omega
      have il := imp_len (s := s) (vol := a3 % 8) (N := N) hjl
      have c2 := counts_L2 wi (vol := a3 % 8) (per := p) (place := pl) hn8 q
      rw [hN] at c2
      have hN1 : 1 ≤ N ∧ (N : Int) = n := by omega
      rw [if_pos (by simp; omega), plan_at q, Option.bind_some, hN, if_neg (show ¬ (((impC s (a3 % 8) N j).Kind != 6) = true) by simp [impC]),
        if_neg (by simp only [impC, bne_iff_ne, ne_eq, Classical.not_not]; rw [wrap64 (by omega) (by omega)]; omega), mod8 h3, mod81 h2, hn, if_neg (by simp [impC]), if_neg (by simp only [decide_eq_true_eq]; omega), decide_eq_false (by omega), Option.bind_some, if_neg (by simp),
        show ((min (j * N) s.Items.length : Nat) : Int) = ((j * N : Nat) : Int) by omega, c2, kont_go', next3 (by omega)]
      refine ⟨_, rfl, ⟨j + 1, q, ?_⟩, by simp only [Int.toNat_natCast]; omega, trivial⟩
      rw [il, Nat.add_mul]
      congr 1
      omega
    · left
      have : j = totN s n := by omega
      subst this
      rw [if_neg (by simp; omega), show ((min (totN s n * N) s.Items.length : Nat) : Int) = s.Blocks by omega]
      rfl
  rw [L1, kont_go', if_pos (by simp), wrap64 (n := ((totN s n + 2 : Nat) : Int) - 1) (by omega) (by omega), show ((totN s n + 2 : Nat) : Int) - 1 = ((totN s n + 1 : Nat) : Int) by omega, plan_end, Option.bind_some]
  rfl
end Go.Proofs.Ytgdbmgnfaefhoaa.Am
