/- Part 6 of the proof: values, memory, walks or the plain law. -/
import Derived.Test.YtgdbmgnfaefhoaaGreatQ5
namespace Go.Proofs.YtgdbmgnfaefhoaaGreat.Am
open Go
set_option linter.unusedVariables false
set_option linter.unusedSimpArgs false
set_option maxRecDepth 100000
theorem data_eq {size : Nat} {k : Int} (hs : size ≤ 100) : ∃ b, mementoseat_Data size k = some b ∧ b.length = size ∧ Byt b := by
 unfold mementoseat_Data
 obtain ⟨t, ht, h1, h2⟩ := loop_QF (b := mementoseat_Data_L1 size k) (s := (([] : List Int), (0 : Int))) (fun s => ∃ j : Nat, j ≤ size ∧ s.2 = (j : Int) ∧ s.1.length = j ∧ Byt s.1) (fun s => size - s.2.toNat) (fun t => t.length = size ∧ Byt t)
  ⟨0, by omega, rfl, rfl, fun x hx => by cases hx⟩ (by simp only; omega) (by
  rintro ⟨b, i⟩ ⟨j, hj, rfl, hl, hb⟩
  simp only at hl hb ⊢
  simp only [mementoseat_Data_L1]
  by_cases c : j < size
  ·right
   rw [if_pos (by simpa using c), app_of (by simp; omega) (by simp; omega), Option.bind_some, next3 (by omega)]
   refine ⟨_, rfl, ⟨j + 1, c, rfl, by simp only [List.length_append, List.length_cons, List.length_nil]; omega, hb.app fun x hx => ?_⟩, by simp only [Int.toNat_natCast]; omega⟩
   simp only [List.mem_cons, List.not_mem_nil, or_false] at hx
   subst hx
   rw [IntKind.wrap_u8]
   omega
  ·left
   rw [if_neg (by simpa using c)]
   exact ⟨_, rfl, by omega, hb⟩)
 rw [ht]
 exact ⟨t, rfl, h1, h2⟩
def SI (blocks size : Nat) (x : Api_Item) : Prop := 0 ≤ x.Block ∧ x.Block < blocks ∧ x.Data.length = size ∧ Byt x.Data
theorem seatItems {blocks size : Nat} {l : List Int} (hb : 1 ≤ blocks) (hb2 : blocks ≤ 256) (hs : size ≤ 32) (hl : l.length ≤ 8) (h8 : ∀ x ∈ l, 0 ≤ x ∧ x < 256) :
  ∃ out, mementoseat_Items blocks size l = some out ∧ out.length ≤ l.length ∧ ∀ x ∈ out, SI blocks size x := by
 unfold mementoseat_Items
 obtain ⟨t, ht, h1, h2⟩ := loop_QF (b := mementoseat_Items_L1 blocks size l) (s := (([] : List Api_Item), (0 : Int))) (fun s => ∃ j : Nat, j ≤ l.length ∧ s.2 = (j : Int) ∧ s.1.length ≤ j ∧ ∀ x ∈ s.1, SI blocks size x) (fun s => l.length - s.2.toNat) (fun t => t.length ≤ l.length ∧ ∀ x ∈ t, SI blocks size x)
  ⟨0, by omega, rfl, Nat.le_refl _, fun x hx => by cases hx⟩ (by simp only; omega) (by
  rintro ⟨out, i⟩ ⟨j, hj, rfl, ho, hx⟩
  simp only at ho hx ⊢
  simp only [mementoseat_Items_L1]
  by_cases c : j < l.length
  rotate_left
  ·left
   rw [if_neg (by simpa using c), Option.bind_some, if_neg (by simp)]
   exact ⟨_, rfl, by omega, hx⟩
  rw [if_pos (by simpa using c), Option.bind_some]
  by_cases c2 : (out.length : Int) < 8
  rotate_left
  ·left
   rw [decide_eq_false c2, if_neg (by simp)]
   exact ⟨_, rfl, by omega, hx⟩
  right
  obtain ⟨y0, y1⟩ := h8 _ (List.getElem_mem c)
  have hm : maxI (blocks : Int) 1 = blocks := by unfold maxI; split <;> omega
  have hr : ∃ r : Nat, r < blocks ∧ remI (IntKind.wrap .i64 l[j]) (maxI (blocks : Int) 1) = some (r : Int) := by
   rw [hm, wrap64 (by omega) (by omega)]
   unfold remI
   have q1 := Int.tmod_lt_of_pos l[j] (show (0 : Int) < blocks by omega)
   have q2 := Int.tmod_nonneg (blocks : Int) y0
   rw [if_neg (by omega)]
   exact ⟨(Int.tmod l[j] blocks).toNat, by omega, by rw [Int.toNat_of_nonneg q2]⟩
  obtain ⟨r, hr1, hr2⟩ := hr
  obtain ⟨b, hbt, _⟩ := loop_QF (b := mementoseat_Items_L2 out r) (s := (false, (0 : Int))) (fun s => ∃ k : Nat, k ≤ out.length ∧ s.2 = (k : Int)) (fun s => out.length - s.2.toNat) (fun _ => True) ⟨0, by omega, rfl⟩ (by simp only; omega) (by
   rintro ⟨t, _⟩ ⟨k, hk, rfl⟩
   simp only [mementoseat_Items_L2]
   by_cases c3 : k < out.length
   ·right
    have e : ∃ t', (if t then some true else ((idx out (k : Int)).bind fun x61 => some (x61.Block == (r : Int)))) = some t' := by
     cases t
     ·rw [if_neg (by simp), idx_at c3]; exact ⟨_, rfl⟩
     ·exact ⟨true, rfl⟩
    obtain ⟨t', e⟩ := e
    rw [if_pos (by simpa using c3), e, Option.bind_some, next3 (by omega)]
    exact ⟨_, rfl, ⟨k + 1, c3, rfl⟩, by simp only [Int.toNat_natCast]; omega⟩
   ·left
    rw [if_neg (by simpa using c3)]
    exact ⟨_, rfl, trivial⟩)
  obtain ⟨d, hd1, hd2, hd3⟩ := data_eq (size := size) (k := l[j]) (by omega)
  rw [decide_eq_true c2, if_pos rfl, idx_at c, Option.bind_some, hr2, Option.bind_some, hbt, Option.bind_some, hd1, Option.bind_some, app_of (by simp; omega) (by simp; omega), Option.bind_some, next3 (by omega)]
  cases b
  ·rw [if_pos (by simp), Option.bind_some]
   refine ⟨_, rfl, ⟨j + 1, c, rfl, by simp only [List.length_append, List.length_cons, List.length_nil]; omega, fun x hx2 => ?_⟩, by simp only [Int.toNat_natCast]; omega⟩
   rcases List.mem_append.1 hx2 with q | q
   ·exact hx x q
   ·simp only [List.mem_cons, List.not_mem_nil, or_false] at q
    subst q
    exact ⟨by simp only; omega, by simp only; omega, hd2, hd3⟩
  ·rw [if_neg (by simp), Option.bind_some]
   exact ⟨_, rfl, ⟨j + 1, c, rfl, by simp only; omega, hx⟩, by simp only [Int.toNat_natCast]; omega⟩)
 rw [ht]
 exact ⟨t, rfl, h1, h2⟩
theorem chunks_eq {b p : Nat} (hb : 1 ≤ b) (hb2 : b ≤ 300) (hp : 1 ≤ p) (hp2 : p ≤ 300) : mementoref16_Chunks b p = some (((b + p - 1) / p : Nat) : Int) := by
 unfold mementoref16_Chunks quoI
 rw [if_neg (by omega), wrap64 (n := (b : Int) + p) (by omega) (by omega), wrap64 (n := (b : Int) + p - 1) (by omega) (by omega), Option.bind_some]
 rw [show (b : Int) + p - 1 = ((b + p - 1 : Nat) : Int) by omega, Int.tdiv_eq_ediv_of_nonneg (by omega)]
 have : (((b + p - 1 : Nat) : Int) / (p : Int)) = (((b + p - 1) / p : Nat) : Int) := (Int.natCast_ediv _ _).symm
 rw [this]
 have h2 : (b + p - 1) / p ≤ b + p - 1 := Nat.div_le_self _ _
 generalize (b + p - 1) / p = q at h2 ⊢
 rw [wrap64 (by omega) (by omega)]
structure NewC (total : Int) (c : Api_VolCmd) : Prop where
 kind : c.Kind = 1
 vol : c.Vol = 0
 blocks : 1 ≤ c.Blocks ∧ c.Blocks ≤ 9
 size : 1 ≤ c.Size ∧ c.Size ≤ 3
 per : 1 ≤ c.Per ∧ c.Per ≤ c.Blocks
 total : c.Total = total
 at_ : c.At = 0
 index : c.Index = 0
 place : c.Place.length ≤ 20 ∧ ∀ x ∈ c.Place, 1 ≤ x ∧ x ≤ 2
 items : c.Items = []
theorem create_eq {b s p total : Int} (hb : 0 ≤ b ∧ b < 256) (hs : 0 ≤ s ∧ s < 256) (hp : 0 ≤ p ∧ p < 256) : ∃ c, mementoseat_Create 0 b s p total = some c ∧ NewC total c := by
 have t9 := Int.tmod_lt_of_pos b (show (0 : Int) < 9 by omega)
 have t9' := Int.tmod_nonneg 9 hb.1
 have t3 := Int.tmod_lt_of_pos s (show (0 : Int) < 3 by omega)
 have t3' := Int.tmod_nonneg 3 hs.1
 unfold mementoseat_Create
 obtain ⟨B, hB1, hB2, eB⟩ : ∃ B : Nat, 1 ≤ B ∧ B ≤ 9 ∧ IntKind.wrap .i64 ((IntKind.wrap .i64 (Int.tmod b 9)) + 1) = (B : Int) := by
  rw [wrap64 (n := Int.tmod b 9) (by omega) (by omega), wrap64 (by omega) (by omega)]
  exact ⟨(Int.tmod b 9 + 1).toNat, by omega, by omega, by rw [Int.toNat_of_nonneg (by omega)]⟩
 rw [eB]
 obtain ⟨x, hx, ex⟩ : ∃ x : Nat, x < B ∧ remI (IntKind.wrap .i64 p) (B : Int) = some (x : Int) := by
  rw [wrap64 (by omega) (by omega)]
  unfold remI
  have q1 := Int.tmod_lt_of_pos p (show (0 : Int) < B by omega)
  have q2 := Int.tmod_nonneg (B : Int) hp.1
  rw [if_neg (by omega)]
  exact ⟨(Int.tmod p B).toNat, by omega, by rw [Int.toNat_of_nonneg q2]⟩
 rw [ex, Option.bind_some]
 have eP : IntKind.wrap .i64 ((x : Int) + 1) = ((x + 1 : Nat) : Int) := next3 (by omega)
 obtain ⟨N, hN, hch⟩ : ∃ N : Nat, N ≤ 20 ∧ mementoref16_Chunks (B : Int) ((x + 1 : Nat) : Int) = some (N : Int) := by
  have hle : (B + (x + 1) - 1) / (x + 1) ≤ B + (x + 1) - 1 := Nat.div_le_self _ _
  exact ⟨_, by omega, chunks_eq hB1 (by omega) (by omega) (by omega)⟩
 obtain ⟨t, ht, h1, h2⟩ := loop_QF (b := mementoseat_Create_L1 b p (x : Int)) (s := ((0 : Int), ([] : List Int))) (fun s => ∃ j : Nat, j ≤ N ∧ s.1 = (j : Int) ∧ s.2.length = j ∧ ∀ y ∈ s.2, 1 ≤ y ∧ y ≤ 2) (fun s => N - s.1.toNat) (fun t => t.length ≤ 20 ∧ ∀ y ∈ t, 1 ≤ y ∧ y ≤ 2)
  ⟨0, by omega, rfl, rfl, fun y hy => by cases hy⟩ (by simp only; omega) (by
  rintro ⟨i, l⟩ ⟨j, hj, rfl, hl, hy⟩
  simp only at hl hy ⊢
  simp only [mementoseat_Create_L1]
  rw [eB, eP, hch, Option.bind_some]
  by_cases c : j < N
  ·right
   rw [if_pos (by simpa using c), app_of (by simp; omega) (by simp; omega), Option.bind_some, next3 (by omega)]
   refine ⟨_, rfl, ⟨j + 1, c, rfl, by simp only [List.length_append, List.length_cons, List.length_nil]; omega, fun y hy2 => ?_⟩, by simp only [Int.toNat_natCast]; omega⟩
   rcases List.mem_append.1 hy2 with q | q
   ·exact hy y q
   ·simp only [List.mem_cons, List.not_mem_nil, or_false] at q
    rw [wrap64 (n := p) (by omega) (by omega), wrap64 (n := (j : Int) + p) (by omega) (by omega)] at q
    have q1 := Int.tmod_lt_of_pos ((j : Int) + p) (show (0 : Int) < 2 by omega)
    have q2 := Int.tmod_nonneg 2 (show 0 ≤ (j : Int) + p by omega)
    rw [wrap64 (by omega) (by omega)] at q
    omega
  ·left
   rw [if_neg (by simpa using c)]
   exact ⟨_, rfl, by omega, hy⟩)
 rw [ht, Option.bind_some]
 refine ⟨_, rfl, rfl, ?_, by simp only; omega, ?_, by simp only; rw [eP]; omega, rfl, rfl, rfl, ⟨h1, h2⟩, rfl⟩
 ·simp only
  rw [wrap64 (by decide) (by decide)]
  rfl
 ·simp only
  rw [wrap64 (n := Int.tmod s 3) (by omega) (by omega), wrap64 (by omega) (by omega)]
  omega
theorem NewC.cmdR {total : Int} {c : Api_VolCmd} (h : NewC total c) (ht : 0 ≤ total ∧ total ≤ 100) : CmdR c := by
 obtain ⟨k, v, b, s, p, t, a, i, pl, it⟩ := h
 exact ⟨by omega, by omega, by omega, by omega, by omega, by omega, by omega, by omega, by have := pl.1; omega, fun x hx => by have := pl.2 x hx; omega, by rw [it]; simp, fun x hx => by rw [it] at hx; cases hx⟩
structure VInv (n : Nat) (v : Api_Volume) : Prop where
 id : v.Id = 0
 blocks : 1 ≤ v.Blocks ∧ v.Blocks ≤ 9
 size : 1 ≤ v.Size ∧ v.Size ≤ 3
 next : 0 ≤ v.Next ∧ v.Next ≤ n
 pins : v.Pins.length ≤ n
 writes : v.Writes.length ≤ n
 items : ∀ w ∈ v.Writes, 1 ≤ w.Items.length ∧ w.Items.length ≤ 8 ∧ ∀ x ∈ w.Items, 0 ≤ x.Block ∧ x.Block < v.Blocks ∧ (x.Data.length : Int) = v.Size ∧ Byt x.Data
theorem VInv.mono {n m : Nat} {v : Api_Volume} (h : VInv n v) (hm : n ≤ m) : VInv m v :=
 ⟨h.id, h.blocks, h.size, by have := h.next; omega, by have := h.pins; omega, by have := h.writes; omega, h.items⟩
theorem own_eq {l : List Api_Item} (hl : l.length ≤ 1000) (h : ∀ x ∈ l, x.Data.length ≤ 1000) : mementoref16_own l = some l := by
 unfold mementoref16_own
 rw [loop_eqF (s := (([] : List Api_Item), (0 : Int))) (fun s => ∃ k : Nat, k ≤ l.length ∧ s = (l.take k, (k : Int))) (fun s => l.length - s.2.toNat) (fun _ => l) ⟨0, by omega, rfl⟩ (by simp only; omega)]
 ·rfl
 rintro _ ⟨k, hk, rfl⟩
 simp only [mementoref16_own_L1]
 by_cases c : k < l.length
 ·right
  have hd := h _ (List.getElem_mem c)
  rw [if_pos (by simpa using c), idx_at c, Option.bind_some, app_of (by simp; omega) (by simp; omega), Option.bind_some, app_of (by simp; omega) (by simp; omega), Option.bind_some, next3 (by omega), List.nil_append]
  exact ⟨_, rfl, ⟨k + 1, c, by rw [List.take_succ_eq_append_getElem c]⟩, by simp only [Int.toNat_natCast]; omega, by first | rfl | trivial⟩
 ·left
  have : k = l.length := by omega
  subst this
  rw [if_neg (by simp), List.take_length]; rfl
theorem write_eq {v : Api_Volume} {l : List Api_Item} (hv : v.Writes.length ≤ 1000) (hl : l.length ≤ 1000) (h : ∀ x ∈ l, x.Data.length ≤ 1000) :
  mementoref16_write v l = some ⟨v.Id, v.Blocks, v.Size, v.Per, v.Place, v.Total, v.Next, v.Hidden, v.Floor, v.Pins, v.Writes ++ [⟨(v.Writes.length : Int) + 1, l⟩]⟩ := by
 unfold mementoref16_write mementoref16_Len
 rw [app_of (by simp; omega) (by simp; omega), Option.bind_some, Option.bind_some, own_eq hl h, Option.bind_some, app_of (by simp; omega) (by simp; omega), Option.bind_some, wrap64 (by omega) (by omega), List.nil_append]
theorem itemsRight_ok {blocks size : Int} {l : List Api_Item} (hl : l.length ≤ 1000) : ∃ b, mementoref13_ItemsRight blocks size l = some b ∧ (b = true → 1 ≤ l.length ∧ l.length ≤ 8 ∧ ∀ x ∈ l, 0 ≤ x.Block ∧ x.Block < blocks ∧ (x.Data.length : Int) = size) := by
 unfold mementoref13_ItemsRight
 by_cases c1 : (l.length : Int) < 1
 ·rw [if_pos (by simpa using c1), Option.bind_some, if_pos rfl]
  exact ⟨false, rfl, fun h => by cases h⟩
 rw [if_neg (by simpa using c1), Option.bind_some]
 by_cases c2 : (l.length : Int) > 8
 ·rw [decide_eq_true c2, if_pos rfl]
  exact ⟨false, rfl, fun h => by cases h⟩
 rw [decide_eq_false c2, if_neg (by simp)]
 obtain ⟨t, ht, hq⟩ := loop_QF (b := mementoref13_ItemsRight_L1 blocks size l) (s := (0 : Int)) (fun s => ∃ k : Nat, k ≤ l.length ∧ s = (k : Int) ∧ ∀ x ∈ l.take k, 0 ≤ x.Block ∧ x.Block < blocks ∧ (x.Data.length : Int) = size) (fun s => l.length - s.toNat) (fun t => t = .ret false ∨ t = .go () ∧ ∀ x ∈ l, 0 ≤ x.Block ∧ x.Block < blocks ∧ (x.Data.length : Int) = size)
  ⟨0, by omega, rfl, fun x hx => by cases hx⟩ (by simp; omega) (by
  rintro _ ⟨k, hk, rfl, hx⟩
  simp only [mementoref13_ItemsRight_L1]
  by_cases c : k < l.length
  rotate_left
  ·left
   have : k = l.length := by omega
   subst this
   rw [List.take_length] at hx
   rw [if_neg (by simp)]
   exact ⟨_, rfl, .inr ⟨rfl, hx⟩⟩
  rw [if_pos (by simpa using c), idx_at c, Option.bind_some]
  by_cases d1 : l[k].Block < 0
  ·left
   rw [if_pos (by simpa using d1), Option.bind_some, if_pos rfl]
   exact ⟨_, rfl, .inl rfl⟩
  rw [if_neg (by simpa using d1)]
  by_cases d2 : l[k].Block ≥ blocks
  ·left
   rw [if_pos (by simpa using d2), Option.bind_some, if_pos rfl]
   exact ⟨_, rfl, .inl rfl⟩
  rw [if_neg (by simpa using d2), Option.bind_some]
  by_cases d3 : (l[k].Data.length : Int) = size
  rotate_left
  ·left
   rw [if_pos (by simpa using d3)]
   exact ⟨_, rfl, .inl rfl⟩
  rw [if_neg (by simpa using d3)]
  obtain ⟨t, ht, hq⟩ := loop_QF (b := mementoref13_ItemsRight_L2 l (k : Int)) (s := (0 : Int)) (fun s => ∃ j : Nat, j ≤ k ∧ s = (j : Int)) (fun s => k - s.toNat) (fun t => t = .ret (.ret (.ret false)) ∨ t = .go ()) ⟨0, by omega, rfl⟩ (by simp; omega) (by
   rintro _ ⟨j, hj, rfl⟩
   simp only [mementoref13_ItemsRight_L2]
   by_cases e : j < k
   ·rw [if_pos (by simpa using e), idx_at (by omega), Option.bind_some, idx_at c, Option.bind_some]
    by_cases e2 : l[j].Block = l[k].Block
    ·left
     rw [if_pos (by simpa using e2)]
     exact ⟨_, rfl, .inl rfl⟩
    ·right
     rw [if_neg (by simpa using e2), next3 (by omega)]
     exact ⟨_, rfl, ⟨j + 1, e, rfl⟩, by simp only [Int.toNat_natCast]; omega⟩
   ·left
    rw [if_neg (by simpa using e)]
    exact ⟨_, rfl, .inr rfl⟩)
  rw [ht]
  rcases hq with rfl | rfl
  ·left
   exact ⟨_, rfl, .inl rfl⟩
  ·right
   rw [kont_go', next3 (by omega)]
   refine ⟨_, rfl, ⟨k + 1, c, rfl, fun x hx2 => ?_⟩, by simp only [Int.toNat_natCast]; omega⟩
   rw [List.take_succ_eq_append_getElem c] at hx2
   rcases List.mem_append.1 hx2 with q | q
   ·exact hx x q
   ·simp only [List.mem_cons, List.not_mem_nil, or_false] at q
    subst q
    exact ⟨by omega, by omega, d3⟩)
 rw [ht]
 rcases hq with rfl | ⟨rfl, hx⟩
 ·exact ⟨false, rfl, fun h => by cases h⟩
 ·exact ⟨true, rfl, fun _ => ⟨by omega, by omega, hx⟩⟩
end Go.Proofs.YtgdbmgnfaefhoaaGreat.Am
namespace Go.Proofs.YtgdbmgnfaefhoaaGreat.Am
open Go
set_option linter.unusedVariables false
set_option linter.unusedSimpArgs false
set_option maxRecDepth 100000
theorem SI.itR {b s : Nat} (hb : b ≤ 256) (hs : s ≤ 32) {x : Api_Item} (h : SI b s x) : ItR x := ⟨⟨h.1, by have := h.2.1; omega⟩, by have := h.2.2.1; omega, h.2.2.2⟩
theorem cmd_there {n : Nat} {v : Api_Volume} (hv : VInv n v) (hn : n ≤ 1000) {a b c d : Int} (ha : 0 ≤ a ∧ a < 256) (hb : 0 ≤ b ∧ b < 256) (hc : 0 ≤ c ∧ c < 256) (hd : 0 ≤ d ∧ d < 256) :
  ∃ x, mementoseat_Cmd v true a b c d = some x ∧ CmdR x ∧ x.Vol = 0 ∧ x.Kind ≠ 1 := by
 obtain ⟨B, hB⟩ := Int.eq_ofNat_of_zero_le (show 0 ≤ v.Blocks by have := hv.blocks; omega)
 obtain ⟨S, hS⟩ := Int.eq_ofNat_of_zero_le (show 0 ≤ v.Size by have := hv.size; omega)
 have hB1 := hv.blocks
 have hS1 := hv.size
 have hw := hv.writes
 have hnx := hv.next
 obtain ⟨l2, e2, k2, i2⟩ := seatItems (blocks := B) (size := S) (l := [b, c]) (by omega) (by omega) (by omega) (by simp) (fun x hx => by simp at hx; omega)
 obtain ⟨l3, e3, k3, i3⟩ := seatItems (blocks := B) (size := S) (l := [b, c, d]) (by omega) (by omega) (by omega) (by simp) (fun x hx => by simp at hx; omega)
 simp only [List.length_cons, List.length_nil] at k2 k3
 have r2 : ∀ x ∈ l2, ItR x := fun x hx => (i2 x hx).itR (by omega) (by omega)
 have r3 : ∀ x ∈ l3, ItR x := fun x hx => (i3 x hx).itR (by omega) (by omega)
 rw [← hB, ← hS] at e2 e3
 obtain ⟨t, ht1, ht2⟩ : ∃ t : Nat, t ≤ 2000 ∧ remI (IntKind.wrap .i64 b) (IntKind.wrap .i64 ((v.Writes.length : Int) + 2)) = some (t : Int) := by
  rw [wrap64 (n := b) (by omega) (by omega), wrap64 (by omega) (by omega)]
  unfold remI
  have q1 := Int.tmod_lt_of_pos b (show (0 : Int) < (v.Writes.length : Int) + 2 by omega)
  have q2 := Int.tmod_nonneg ((v.Writes.length : Int) + 2) hb.1
  rw [if_neg (by omega)]
  exact ⟨(Int.tmod b ((v.Writes.length : Int) + 2)).toNat, by omega, by rw [Int.toNat_of_nonneg q2]⟩
 obtain ⟨ix, hi1, hi2⟩ : ∃ ix : Int, (0 ≤ ix ∧ ix ≤ 2000) ∧ maxI (IntKind.wrap .i64 (v.Next - (IntKind.wrap .i64 (Int.tdiv (IntKind.wrap .i64 (Int.tmod d 5)) 4)))) 0 = ix := by
  refine ⟨_, ?_, rfl⟩
  have t1 := Int.tmod_lt_of_pos d (show (0 : Int) < 5 by omega)
  have t0 := Int.tmod_nonneg 5 hd.1
  rw [wrap64 (n := Int.tmod d 5) (by omega) (by omega), Int.tdiv_eq_ediv_of_nonneg t0, wrap64 (n := Int.tmod d 5 / 4) (by omega) (by omega), wrap64 (by omega) (by omega)]
  unfold maxI
  split <;> omega
 unfold mementoseat_Cmd mementoref16_Len
 rw [if_neg (by simp), e2, e3]
 simp only [Option.bind_some, ht2, hi2]
 have key : ∀ (k at_ i : Int) (l : List Api_Item), 2 ≤ k ∧ k ≤ 8 → 0 ≤ at_ ∧ at_ ≤ 2000 → 0 ≤ i ∧ i ≤ 2000 → l.length ≤ 8 → (∀ x ∈ l, ItR x) →
   ∃ x, ((if v.Hidden then (some (decide ((Int.tmod a 10) < 5))) else (some false)).bind fun t115 => ((if t115 then ((some l3).bind fun y146 => (some (6, 0, v.Next, y146))) else (some (k, at_, i, l))).bind fun (me17_Kind134, me17_At135, me17_Index136, me17_Items137) => (some (Api_VolCmd.mk me17_Kind134 v.Id 0 0 0 ([] : (List Int)) 0 me17_At135 me17_Index136 me17_Items137)))) = some x ∧ CmdR x ∧ x.Vol = 0 ∧ x.Kind ≠ 1 := fun k at_ i l hk hat hi hl hr => by
  have mk : ∀ (k at_ i : Int) (l : List Api_Item), 2 ≤ k ∧ k ≤ 8 → 0 ≤ at_ ∧ at_ ≤ 2000 → 0 ≤ i ∧ i ≤ 2000 → l.length ≤ 8 → (∀ x ∈ l, ItR x) → CmdR (Api_VolCmd.mk k v.Id 0 0 0 [] 0 at_ i l) := fun k at_ i l hk hat hi hl hr =>
   ⟨by simp only; omega, by simp only; rw [hv.id]; omega, by simp only; omega, by simp only; omega, by simp only; omega, by simp only; omega, by simp only; omega, by simp only; omega, by simp, (fun x hx => by cases hx), hl, hr⟩
  have fin : ∀ b : Bool, ∃ x, ((if b then ((some l3).bind fun y146 => (some (6, 0, v.Next, y146))) else (some (k, at_, i, l))).bind fun (me17_Kind134, me17_At135, me17_Index136, me17_Items137) => (some (Api_VolCmd.mk me17_Kind134 v.Id 0 0 0 ([] : (List Int)) 0 me17_At135 me17_Index136 me17_Items137))) = some x ∧ CmdR x ∧ x.Vol = 0 ∧ x.Kind ≠ 1 := fun b => by
   cases b
   ·exact ⟨_, rfl, mk _ _ _ _ hk hat hi hl hr, hv.id, by simp only; omega⟩
   ·exact ⟨_, rfl, mk _ _ _ _ (by omega) (by omega) ⟨hnx.1, by omega⟩ (by omega) r3, hv.id, by simp only; omega⟩
  by_cases hh : v.Hidden = true
  ·rw [if_pos hh, Option.bind_some]; exact fin _
  ·rw [if_neg hh, Option.bind_some]; exact fin _
 have k0 := fun (k at_ i : Int) (hk : 2 ≤ k ∧ k ≤ 8) (hat : 0 ≤ at_ ∧ at_ ≤ 2000) (hi : 0 ≤ i ∧ i ≤ 2000) => key k at_ i [] hk hat hi (by simp) (fun x hx => by cases hx)
 have kput := key 2 0 0 l3 (by omega) (by omega) (by omega) (by omega) r3
 by_cases c0 : Int.tmod a 10 = 0
 ·simp only [c0, Int.reduceBEq, if_true, Option.bind_some] at kput ⊢
  exact kput
 by_cases c1 : Int.tmod a 10 = 1
 ·simp only [c1, Int.reduceBEq, if_true, if_false, Bool.false_eq_true, Option.bind_some] at kput ⊢
  exact kput
 by_cases c2 : Int.tmod a 10 = 2
 ·simp only [c2, Int.reduceBEq, if_true, if_false, Bool.false_eq_true, Option.bind_some] at kput ⊢
  exact kput
 by_cases c3 : Int.tmod a 10 = 3
 ·simp only [c3, Int.reduceBEq, if_true, if_false, Bool.false_eq_true, Option.bind_some] at kput ⊢
  exact kput
 rw [if_neg (by simpa using c0), if_neg (by simpa using c1), if_neg (by simpa using c2), Option.bind_some, if_neg (by simpa using c3)]
 by_cases c4 : Int.tmod a 10 = 4
 ·rw [if_pos (by simpa using c4), Option.bind_some]
  exact k0 3 t 0 (by omega) (by omega) (by omega)
 rw [if_neg (by simpa using c4)]
 by_cases c5 : Int.tmod a 10 = 5
 ·rw [if_pos (by simpa using c5), Option.bind_some]
  exact k0 4 t 0 (by omega) (by omega) (by omega)
 rw [if_neg (by simpa using c5)]
 by_cases c6 : Int.tmod a 10 = 6
 ·rw [if_pos (by simpa using c6), Option.bind_some]
  exact k0 5 t 0 (by omega) (by omega) (by omega)
 rw [if_neg (by simpa using c6)]
 by_cases c7 : Int.tmod a 10 = 7
 ·rw [if_pos (by simpa using c7), Option.bind_some]
  exact k0 8 0 0 (by omega) (by omega) (by omega)
 rw [if_neg (by simpa using c7)]
 by_cases c8 : Int.tmod a 10 = 8
 ·rw [if_pos (by simpa using c8), Option.bind_some]
  exact key 6 0 ix l2 (by omega) (by omega) hi1 (by omega) r2
 ·rw [if_neg (by simpa using c8), Option.bind_some]
  exact k0 7 0 0 (by omega) (by omega) (by omega)
theorem cmd_new {v : Api_Volume} (hv : v.Id = 0) {a b c d : Int} (hb : 0 ≤ b ∧ b < 256) (hc : 0 ≤ c ∧ c < 256) (hd : 0 ≤ d ∧ d < 256) :
  ∃ x t, mementoseat_Cmd v false a b c d = some x ∧ NewC t x ∧ 0 ≤ t ∧ t ≤ 3 := by
 unfold mementoseat_Cmd
 rw [if_pos (by simp), hv]
 obtain ⟨t, ht, h0, h1⟩ : ∃ t : Int, (if ((Int.tmod d 4) == 0) then (some (IntKind.wrap .i64 ((IntKind.wrap .i64 (Int.tmod (IntKind.wrap .u8 (Int.tdiv d 4)) 3)) + 1))) else (some 0)) = some t ∧ 0 ≤ t ∧ t ≤ 3 := by
  split
  ·refine ⟨_, rfl, ?_⟩
   rw [IntKind.wrap_u8]
   have q0 : 0 ≤ Int.tdiv d 4 % 256 := by omega
   have q1 := Int.tmod_lt_of_pos (Int.tdiv d 4 % 256) (show (0 : Int) < 3 by omega)
   have q2 := Int.tmod_nonneg 3 q0
   rw [wrap64 (n := Int.tmod _ 3) (by omega) (by omega), wrap64 (by omega) (by omega)]
   omega
  ·exact ⟨0, rfl, by omega, by omega⟩
 obtain ⟨x, hx, hx2⟩ := create_eq (b := b) (s := c) (p := d) (total := t) hb hc hd
 rw [ht, Option.bind_some, show IntKind.wrap .u8 (0 : Int) = 0 by rw [IntKind.wrap_u8]; rfl, hx]
 exact ⟨x, t, rfl, hx2, h0, h1⟩
theorem low_ok {v : Api_Volume} (hp : v.Pins.length ≤ 1000) : ∃ n, mementoref16_Low v = some n := by
 unfold mementoref16_Low mementoref16_Len
 obtain ⟨t, ht, _⟩ := loop_QF (b := mementoref16_Low_L1 v) (s := ((v.Writes.length : Int), (0 : Int))) (fun s => ∃ k : Nat, k ≤ v.Pins.length ∧ s.2 = (k : Int)) (fun s => v.Pins.length - s.2.toNat) (fun _ => True) ⟨0, by omega, rfl⟩ (by simp only; omega) (by
  rintro ⟨n, _⟩ ⟨k, hk, rfl⟩
  simp only [mementoref16_Low_L1]
  by_cases c : k < v.Pins.length
  ·right
   rw [if_pos (by simpa using c), idx_at c, Option.bind_some, next3 (by omega)]
   exact ⟨_, rfl, ⟨k + 1, c, rfl⟩, by simp only [Int.toNat_natCast]; omega⟩
  ·left
   rw [if_neg (by simpa using c)]
   exact ⟨_, rfl, trivial⟩)
 rw [Option.bind_some, ht]
 exact ⟨t, rfl⟩
theorem slc_all {α : Type} (l : List α) {k : Nat} (h : k ≤ l.length) : slc l 0 (k : Int) = some (l.take k) ∧ slc l (k : Int) (l.length : Int) = some (l.drop k) := by
 have z0 : ((0 : Nat) : Int) = 0 := rfl
 refine ⟨by rw [← z0, slc_nat l (Nat.zero_le _) h, List.drop_zero], by rw [slc_nat l h (Nat.le_refl _), List.take_length]⟩
theorem done_ok {n : Nat} {v : Api_Volume} {c : Api_VolCmd} (hv : VInv n v) (hn : n ≤ 500) (hc : CmdR c) : ∃ v' e, mementoref16_done v c = some (v', e) ∧ VInv (n + 1) v' := by
 have hm := hv.mono (show n ≤ n + 1 by omega)
 have hp := hv.pins
 have hw := hv.writes
 have hnx := hv.next
 obtain ⟨b, hb1, hb2⟩ := itemsRight_ok (blocks := v.Blocks) (size := v.Size) (l := c.Items) (by have := hc.itemsLen; omega)
 have hwr := write_eq (v := v) (l := c.Items) (by omega) (by have := hc.itemsLen; omega) (fun x hx => by have := (hc.items x hx).2.1; omega)
 have wok : b = true → VInv (n + 1) ⟨v.Id, v.Blocks, v.Size, v.Per, v.Place, v.Total, v.Next, v.Hidden, v.Floor, v.Pins, v.Writes ++ [⟨(v.Writes.length : Int) + 1, c.Items⟩]⟩ := fun hb => by
  obtain ⟨h1, h2, h3⟩ := hb2 hb
  refine ⟨hv.id, hv.blocks, hv.size, by simp only; omega, by simp only; omega, by simp only [List.length_append, List.length_cons, List.length_nil]; omega, fun w hw => ?_⟩
  rcases List.mem_append.1 hw with q | q
  ·exact hv.items w q
  ·simp only [List.mem_cons, List.not_mem_nil, or_false] at q
   subst q
   exact ⟨h1, h2, fun x hx => ⟨(h3 x hx).1, (h3 x hx).2.1, (h3 x hx).2.2, (hc.items x hx).2.2⟩⟩
 obtain ⟨lo, hlo⟩ := low_ok (v := v) (by omega)
 have hk := hc.kind
 unfold mementoref16_done
 rw [hb1, hwr, hlo]
 simp only [Option.bind_some]
 rcases (show c.Kind = 1 ∨ c.Kind = 2 ∨ c.Kind = 3 ∨ c.Kind = 4 ∨ c.Kind = 5 ∨ c.Kind = 6 ∨ c.Kind = 7 ∨ c.Kind = 8 by omega) with hk | hk | hk | hk | hk | hk | hk | hk
 ·simp only [hk, Int.reduceBEq, if_true, if_false, Bool.false_eq_true, Option.bind_some, kont_go']
  exact ⟨_, _, rfl, hm⟩
 ·simp only [hk, Int.reduceBEq, if_true, if_false, Bool.false_eq_true, Option.bind_some]
  by_cases hh : v.Hidden = true
  rotate_left
  ·rw [if_neg hh, kont_go']
   cases b
   ·exact ⟨_, _, rfl, hm⟩
   ·exact ⟨_, _, rfl, wok rfl⟩
  ·rw [if_pos hh]; exact ⟨_, _, rfl, hm⟩
 ·simp only [hk, Int.reduceBEq, if_true, if_false, Bool.false_eq_true, Option.bind_some]
  by_cases hh : v.Hidden = true
  rotate_left
  ·rw [if_neg hh, kont_go']
   split
   ·exact ⟨_, _, rfl, hm⟩
   ·split
    ·exact ⟨_, _, rfl, hm⟩
    ·exact ⟨_, _, rfl, hm.id, hm.blocks, hm.size, hm.next, hm.pins, hm.writes, hm.items⟩
  ·rw [if_pos hh]; exact ⟨_, _, rfl, hm⟩
 ·simp only [hk, Int.reduceBEq, if_true, if_false, Bool.false_eq_true, Option.bind_some]
  by_cases hh : v.Hidden = true
  rotate_left
  ·rw [if_neg hh, kont_go']
   split
   ·exact ⟨_, _, rfl, hm⟩
   ·unfold mementoref16_Len
    rw [Option.bind_some]
    split
    ·exact ⟨_, _, rfl, hm⟩
    ·obtain ⟨t, ht, k, hk1, rfl⟩ := loop_QF (b := mementoref16_done_L1 v c) (s := (0 : Int)) (fun s => ∃ k : Nat, k ≤ v.Pins.length ∧ s = (k : Int)) (fun s => v.Pins.length - s.toNat) (fun t => ∃ k : Nat, k ≤ v.Pins.length ∧ t = (k : Int)) ⟨0, by omega, rfl⟩ (by simp; omega) (by
      rintro _ ⟨k, hk, rfl⟩
      simp only [mementoref16_done_L1]
      by_cases q : k < v.Pins.length
      ·rw [if_pos (by simpa using q), idx_at q, Option.bind_some, Option.bind_some]
       split
       ·right
        rw [next3 (by omega)]
        exact ⟨_, rfl, ⟨k + 1, q, rfl⟩, by simp only [Int.toNat_natCast]; omega⟩
       ·left
        exact ⟨_, rfl, k, hk, rfl⟩
      ·left
       rw [if_neg (by simpa using q), Option.bind_some, if_neg (by simp)]
       exact ⟨_, rfl, k, hk, rfl⟩)
     obtain ⟨s1, s2⟩ := slc_all v.Pins hk1
     rw [ht, Option.bind_some, s1, Option.bind_some, app_of (by simp; omega) (by simp; omega), Option.bind_some, app_of (by simp; omega) (by simp; omega), Option.bind_some, s2, Option.bind_some, app_of (by simp; omega) (by simp; omega), Option.bind_some]
     exact ⟨_, _, rfl, hm.id, hm.blocks, hm.size, hm.next, by simp; omega, hm.writes, hm.items⟩
  ·rw [if_pos hh]; exact ⟨_, _, rfl, hm⟩
 ·simp only [hk, Int.reduceBEq, if_true, if_false, Bool.false_eq_true, Option.bind_some]
  by_cases hh : v.Hidden = true
  rotate_left
  ·rw [if_neg hh, kont_go']
   obtain ⟨t, ht, hq⟩ := loop_QF (b := mementoref16_done_L2 v c) (s := (0 : Int)) (fun s => ∃ k : Nat, k ≤ v.Pins.length ∧ s = (k : Int)) (fun s => v.Pins.length - s.toNat) (fun t => t = .go () ∨ ∃ v', t = .ret (.ret (v', 0)) ∧ VInv (n + 1) v') ⟨0, by omega, rfl⟩ (by simp; omega) (by
    rintro _ ⟨k, hk, rfl⟩
    simp only [mementoref16_done_L2]
    by_cases q : k < v.Pins.length
    ·rw [if_pos (by simpa using q), idx_at q, Option.bind_some]
     obtain ⟨s1, s2⟩ := slc_all v.Pins hk
     obtain ⟨s3, s4⟩ := slc_all v.Pins (k := k + 1) q
     split
     ·left
      rw [s1, Option.bind_some, app_of (by simp; omega) (by simp; omega), Option.bind_some, next3 (by omega), s4, Option.bind_some, app_of (by simp; omega) (by simp; omega), Option.bind_some]
      exact ⟨_, rfl, .inr ⟨_, rfl, hm.id, hm.blocks, hm.size, hm.next, by simp; omega, hm.writes, hm.items⟩⟩
     ·right
      rw [next3 (by omega)]
      exact ⟨_, rfl, ⟨k + 1, q, rfl⟩, by simp only [Int.toNat_natCast]; omega⟩
    ·left
     rw [if_neg (by simpa using q)]
     exact ⟨_, rfl, .inl rfl⟩)
   rw [ht]
   rcases hq with rfl | ⟨v', rfl, hv'⟩
   ·exact ⟨_, _, rfl, hm⟩
   ·exact ⟨_, _, rfl, hv'⟩
  ·rw [if_pos hh]; exact ⟨_, _, rfl, hm⟩
 ·simp only [hk, Int.reduceBEq, if_true, if_false, Bool.false_eq_true, Option.bind_some, kont_go']
  split
  ·exact ⟨_, _, rfl, hm⟩
  ·have fin : ∀ t : Bool, ∃ v' e, (kont (if t then (early (some (v, 0))) else ((if (c.Index != v.Next) then (some true) else (some (v.Next == v.Total))).bind fun t158 => (if t158 then (early (some (v, 33))) else (if (!b) then (early (some (v, 23))) else (some (.go (Api_Volume.mk v.Id v.Blocks v.Size v.Per v.Place v.Total (IntKind.wrap .i64 (v.Next + 1)) v.Hidden v.Floor v.Pins (v.Writes ++ [⟨(v.Writes.length : Int) + 1, c.Items⟩])))))))) fun me => (some (me, 0)) : Option (Api_Volume × Int)) = some (v', e) ∧ VInv (n + 1) v' := fun t => by
    cases t
    ·rw [if_neg (by simp)]
     have f2 : ∀ t : Bool, ∃ v' e, (kont ((some t).bind fun t158 => (if t158 then (early (some (v, 33))) else (if (!b) then (early (some (v, 23))) else (some (.go (Api_Volume.mk v.Id v.Blocks v.Size v.Per v.Place v.Total (IntKind.wrap .i64 (v.Next + 1)) v.Hidden v.Floor v.Pins (v.Writes ++ [⟨(v.Writes.length : Int) + 1, c.Items⟩]))))))) fun me => (some (me, 0)) : Option (Api_Volume × Int)) = some (v', e) ∧ VInv (n + 1) v' := fun t => by
      cases t
      ·cases b
       ·exact ⟨_, _, rfl, hm⟩
       ·have w := wok rfl
        refine ⟨_, _, rfl, w.id, w.blocks, w.size, ?_, w.pins, w.writes, w.items⟩
        simp only
        rw [wrap64 (by omega) (by omega)]
        omega
      ·exact ⟨_, _, rfl, hm⟩
     split
     ·exact f2 true
     ·exact f2 _
    ·exact ⟨_, _, rfl, hm⟩
   split
   ·rw [Option.bind_some]; exact fin _
   ·rw [Option.bind_some]; exact fin _
 ·simp only [hk, Int.reduceBEq, if_true, if_false, Bool.false_eq_true, Option.bind_some, kont_go']
  unfold mementoref16_Len
  have fin : ∀ t : Bool, ∃ v' e, (kont (if t then (early (some (v, 33))) else ((some (v.Writes.length : Int)).bind fun y306 => (some (.go (Api_Volume.mk v.Id v.Blocks v.Size v.Per v.Place v.Total v.Next false y306 v.Pins v.Writes))))) fun me => (some (me, 0)) : Option (Api_Volume × Int)) = some (v', e) ∧ VInv (n + 1) v' := fun t => by
   cases t
   ·exact ⟨_, _, rfl, hm.id, hm.blocks, hm.size, hm.next, hm.pins, hm.writes, hm.items⟩
   ·exact ⟨_, _, rfl, hm⟩
  split
  ·rw [Option.bind_some]; exact fin true
  ·rw [Option.bind_some]; exact fin _
 ·simp only [hk, Int.reduceBEq, if_true, if_false, Bool.false_eq_true, Option.bind_some, kont_go']
  exact ⟨_, _, rfl, hm⟩
end Go.Proofs.YtgdbmgnfaefhoaaGreat.Am
namespace Go.Proofs.YtgdbmgnfaefhoaaGreat.Am
open Go
set_option linter.unusedVariables false
set_option linter.unusedSimpArgs false
set_option maxRecDepth 100000
def MS (n : Nat) (m : Mementoref16_Machine) : Prop := m.L = [] ∨ ∃ v, m.L = [v] ∧ VInv n v
theorem find_nil {m : Mementoref16_Machine} (h : m.L = []) (id : Int) : mementoref16_Machine_find m id = some (-1) := by
 unfold mementoref16_Machine_find
 rw [loop_eqF (s := (0 : Int)) (fun s => s = 0) (fun _ => 0) (fun _ => .go ()) rfl (by omega)]
 ·rfl
 rintro _ rfl
 left
 simp only [mementoref16_Machine_find_L1]
 rw [h, if_neg (by simp)]
 rfl
theorem find_one {m : Mementoref16_Machine} {v : Api_Volume} (h : m.L = [v]) {id : Int} (hv : v.Id = id) : mementoref16_Machine_find m id = some 0 := by
 unfold mementoref16_Machine_find
 rw [loop_eqF (s := (0 : Int)) (fun s => s = 0) (fun _ => 0) (fun _ => .ret 0) rfl (by omega)]
 ·rfl
 rintro _ rfl
 left
 simp only [mementoref16_Machine_find_L1]
 have e : idx [v] (0 : Int) = some v := rfl
 rw [h, if_pos (by simp), e, Option.bind_some, if_pos (by simpa using hv)]
 rfl
theorem mvol_nil {m : Mementoref16_Machine} (h : m.L = []) : mementoref16_Machine_Volume m 0 = some (⟨0, 0, 0, 0, [], 0, 0, false, 0, [], []⟩, false) := by
 unfold mementoref16_Machine_Volume
 rw [find_nil h]
 rfl
theorem mvol_one {m : Mementoref16_Machine} {v : Api_Volume} (h : m.L = [v]) (hv : v.Id = 0) : mementoref16_Machine_Volume m 0 = some (v, true) := by
 unfold mementoref16_Machine_Volume
 have e : idx [v] (0 : Int) = some v := rfl
 rw [find_one h hv, Option.bind_some, if_neg (by simp), h, e]
 rfl
theorem new_ok {t : Int} {c : Api_VolCmd} (h : NewC t c) (ht : 0 ≤ t ∧ t ≤ 100) : ∃ v e, mementoref16_New c = some (v, e) ∧ (e = 0 → VInv 0 v) := by
 obtain ⟨k, v, b, s, p, tt, a, i, pl, it⟩ := h
 have hs : ∃ q, mementoref16_shape c = some q := by
  obtain ⟨B, hB⟩ := Int.eq_ofNat_of_zero_le (show 0 ≤ c.Blocks by omega)
  obtain ⟨P, hP⟩ := Int.eq_ofNat_of_zero_le (show 0 ≤ c.Per by omega)
  have hch := chunks_eq (b := B) (p := P) (by omega) (by omega) (by omega) (by omega)
  unfold mementoref16_shape
  rw [if_neg (by simp; omega), if_neg (by simp; omega), if_neg (by simp; omega), if_neg (by simp; omega), if_neg (by simp; omega), if_neg (by simp; omega), if_neg (by simp; omega), if_neg (by simp; omega), hB, hP, hch, Option.bind_some]
  have e : ∃ q, (if ((c.Place.length : Int) != (((B + P - 1) / P : Nat) : Int)) then (some true) else (if (decide (c.Total < 0)) then (some true) else (some (decide (c.Total > 1099511627776))))) = some q := by
   split
   ·exact ⟨_, rfl⟩
   ·split
    ·exact ⟨_, rfl⟩
    ·exact ⟨_, rfl⟩
  obtain ⟨q, e⟩ := e
  rw [e, Option.bind_some]
  cases q
  ·rw [if_neg (by simp)]
   rw [loop_eqF (s := (0 : Int)) (fun s => ∃ k : Nat, k ≤ c.Place.length ∧ s = (k : Int)) (fun s => c.Place.length - s.toNat) (fun _ => .go ()) ⟨0, by omega, rfl⟩ (by simp; omega)]
   ·exact ⟨_, rfl⟩
   rintro _ ⟨k, hk, rfl⟩
   simp only [mementoref16_shape_L1]
   by_cases q : k < c.Place.length
   ·right
    have := pl.2 _ (List.getElem_mem q)
    rw [if_pos (by simpa using q), idx_at q, Option.bind_some, if_neg (by simp; omega), decide_eq_false (by omega), Option.bind_some, if_neg (by simp), next3 (by omega)]
    exact ⟨_, rfl, ⟨k + 1, q, rfl⟩, by simp only [Int.toNat_natCast]; omega, trivial⟩
   ·left
    rw [if_neg (by simpa using q)]; rfl
  ·exact ⟨false, rfl⟩
 obtain ⟨q, hq⟩ := hs
 unfold mementoref16_New
 rw [hq, Option.bind_some]
 cases q
 ·exact ⟨_, _, rfl, fun e => by cases e⟩
 ·rw [if_neg (by simp), app_of (by simp; omega) (by simp; omega), Option.bind_some]
  exact ⟨_, _, rfl, fun _ => ⟨v, b, s, ⟨by simp only; omega, by simp only; omega⟩, by simp, by simp, fun w hw => by cases hw⟩⟩
theorem apply_ok {n : Nat} {m : Mementoref16_Machine} (hm : MS n m) (hn : n ≤ 400) {c : Api_VolCmd} (hc : CmdR c) (hv : c.Vol = 0) (h1 : c.Kind = 1 → ∃ t, NewC t c ∧ 0 ≤ t ∧ t ≤ 100) :
  ∃ r m', mementoref16_Machine_Apply m (cmdB c) = some (r, m') ∧ MS (n + 1) m' := by
 have hmono : MS (n + 1) m := by
  rcases hm with h | ⟨v, h, hi⟩
  ·exact .inl h
  ·exact .inr ⟨v, h, hi.mono (by omega)⟩
 unfold mementoref16_Machine_Apply
 rw [readCmd_eq hc, Option.bind_some]
 simp only
 rw [if_neg (by simp), hv]
 rcases hm with h | ⟨v, h, hi⟩
 ·rw [find_nil h, h, Option.bind_some, app_of (by simp) (by simp), Option.bind_some]
  by_cases k1 : c.Kind = 1
  ·obtain ⟨t, hnc, ht⟩ := h1 k1
   obtain ⟨v, e, hnw, hve⟩ := new_ok hnc ht
   rw [if_pos (by simpa using k1), if_neg (by simp), hnw, Option.bind_some]
   simp only
   by_cases he : e = 0
   ·subst he
    have hl : loopN (mementoref16_Machine_Apply_L1 c []) fuel 0 = some 0 := by
     refine loop_eqF (s := (0 : Int)) (fun s => s = 0) (fun _ => 0) (fun _ => 0) rfl (by omega) ?_
     rintro _ rfl
     left
     rfl
    have s0 : slc ([] : List Api_Volume) 0 0 = some [] := rfl
    have s1 : slc ([] : List Api_Volume) 0 (([] : List Api_Volume).length : Int) = some [] := rfl
    rw [if_neg (by simp), show (([] : List Api_Volume) ++ []) = [] from rfl, hl, Option.bind_some, s0, Option.bind_some, app_of (by simp) (by simp), Option.bind_some, app_of (by simp) (by simp), Option.bind_some, s1, Option.bind_some, app_of (by simp) (by simp), Option.bind_some]
    exact ⟨_, _, rfl, .inr ⟨v, rfl, (hve rfl).mono (by omega)⟩⟩
   ·rw [if_pos (by simpa using he)]
    exact ⟨_, _, rfl, hmono⟩
  ·rw [if_neg (by simpa using k1), if_pos (by simp)]
   exact ⟨_, _, rfl, hmono⟩
 ·rw [find_one h hi.id, h, Option.bind_some, app_of (by simp) (by simp), Option.bind_some]
  by_cases k1 : c.Kind = 1
  ·rw [if_pos (by simpa using k1), if_pos (by simp)]
   exact ⟨_, _, rfl, hmono⟩
  ·have e : idx ([] ++ [v]) (0 : Int) = some v := rfl
   obtain ⟨v', e', hd, hv'⟩ := done_ok hi (by omega) hc
   rw [if_neg (by simpa using k1), if_neg (by simp), e, Option.bind_some]
   unfold mementoref16_Do
   rw [hd, Option.bind_some]
   simp only
   have u : ∀ x : Api_Volume, updL ([] ++ [v]) (0 : Int) x = some [x] := fun x => rfl
   by_cases he : e' = 0
   ·rw [if_neg (by simpa using he)]
    unfold mementoref16_Len
    rw [Option.bind_some, Option.bind_some]
    simp only
    rw [u, Option.bind_some]
    exact ⟨_, _, rfl, .inr ⟨v', rfl, hv'⟩⟩
   ·rw [if_pos (by simpa using he), Option.bind_some]
    simp only
    rw [u, Option.bind_some]
    exact ⟨_, _, rfl, .inr ⟨v, rfl, hi.mono (by omega)⟩⟩
theorem volume_ok {l : List Int} (hl : l.length ≤ 80) (h8 : ∀ x ∈ l, 0 ≤ x ∧ x < 256) : ∃ v, mementoseat_Volume l = some v ∧ VInv 30 v := by
 unfold mementoseat_Volume
 obtain ⟨m, hm, hms⟩ := loop_QF (b := mementoseat_Volume_L1 l) (s := ((0 : Int), Mementoref16_Machine.mk [])) (fun s => ∃ k : Nat, k ≤ 20 ∧ 4 * k ≤ l.length ∧ s.1 = ((4 * k : Nat) : Int) ∧ MS k s.2) (fun s => 100 - s.1.toNat) (fun m => MS 20 m)
  ⟨0, by omega, by omega, rfl, .inl rfl⟩ (by simp) (by
  rintro ⟨i, m⟩ ⟨k, hk, hk4, rfl, hms⟩
  simp only at hms ⊢
  simp only [mementoseat_Volume_L1]
  rw [wrap64 (n := ((4 * k : Nat) : Int) + 3) (by omega) (by omega)]
  by_cases c : 4 * k + 3 < l.length
  rotate_left
  ·left
   rw [if_neg (by simp only [decide_eq_true_eq]; omega)]
   refine ⟨_, rfl, ?_⟩
   rcases hms with h | ⟨v, h, hi⟩
   ·exact .inl h
   ·exact .inr ⟨v, h, hi.mono hk⟩
  right
  rw [if_pos (by simp only [decide_eq_true_eq]; omega), wrap64 (n := ((4 * k : Nat) : Int) + 1) (by omega) (by omega), wrap64 (n := ((4 * k : Nat) : Int) + 2) (by omega) (by omega), wrap64 (n := ((4 * k : Nat) : Int) + 4) (by omega) (by omega),
   show ((4 * k : Nat) : Int) + 1 = ((4 * k + 1 : Nat) : Int) by omega, show ((4 * k : Nat) : Int) + 2 = ((4 * k + 2 : Nat) : Int) by omega, show ((4 * k : Nat) : Int) + 3 = ((4 * k + 3 : Nat) : Int) by omega, show ((4 * k : Nat) : Int) + 4 = ((4 * (k + 1) : Nat) : Int) by omega]
  have i0 := idx_at (l := l) (i := 4 * k) (by omega)
  have i1 := idx_at (l := l) (i := 4 * k + 1) (by omega)
  have i2 := idx_at (l := l) (i := 4 * k + 2) (by omega)
  have i3 := idx_at (l := l) (i := 4 * k + 3) (by omega)
  have b0 := h8 _ (List.getElem_mem (show 4 * k < l.length by omega))
  have b1 := h8 _ (List.getElem_mem (show 4 * k + 1 < l.length by omega))
  have b2 := h8 _ (List.getElem_mem (show 4 * k + 2 < l.length by omega))
  have b3 := h8 _ (List.getElem_mem (show 4 * k + 3 < l.length by omega))
  have step : ∀ c : Api_VolCmd, CmdR c → c.Vol = 0 → (c.Kind = 1 → ∃ t, NewC t c ∧ 0 ≤ t ∧ t ≤ 100) → ∃ s', ((mementoref16_PutCmd c).bind fun (y47, y48) => ((mementoref16_Machine_Apply m y47).bind fun (y50, y51) => (some (Ctl.go (((4 * (k + 1) : Nat) : Int), y51)) : Option (Ctl Mementoref16_Machine (Int × Mementoref16_Machine))))) = some (.go s') ∧ (∃ k : Nat, k ≤ 20 ∧ 4 * k ≤ l.length ∧ s'.1 = ((4 * k : Nat) : Int) ∧ MS k s'.2) ∧ 100 - s'.1.toNat < 100 - (((4 * k : Nat) : Int)).toNat := fun c h1 h2 h3 => by
   obtain ⟨r, m', ha, hm'⟩ := apply_ok hms (by omega) h1 h2 h3
   rw [putCmd_eq h1, Option.bind_some]
   simp only
   rw [ha, Option.bind_some]
   exact ⟨_, rfl, ⟨k + 1, by omega, by omega, rfl, hm'⟩, by simp only [Int.toNat_natCast]; omega⟩
  rcases hms with h | ⟨v, h, hi⟩
  ·rw [mvol_nil h, Option.bind_some]
   simp only
   rw [i0, Option.bind_some, i1, Option.bind_some, i2, Option.bind_some, i3, Option.bind_some]
   obtain ⟨x, t, hx, hnc, t0, t3⟩ := cmd_new (v := ⟨0, 0, 0, 0, [], 0, 0, false, 0, [], []⟩) rfl (a := l[4 * k]) (b := l[4 * k + 1]) (c := l[4 * k + 2]) (d := l[4 * k + 3]) b1 b2 b3
   rw [hx, Option.bind_some]
   exact step x (hnc.cmdR (by omega)) hnc.vol fun _ => ⟨t, hnc, t0, by omega⟩
  ·rw [mvol_one h hi.id, Option.bind_some]
   simp only
   rw [i0, Option.bind_some, i1, Option.bind_some, i2, Option.bind_some, i3, Option.bind_some]
   obtain ⟨x, hx, hr, hvol, hk1⟩ := cmd_there hi (by omega) b0 b1 b2 b3
   rw [hx, Option.bind_some]
   exact step x hr hvol fun e => absurd e hk1)
 rw [hm, Option.bind_some]
 rcases hms with h | ⟨v, h, hi⟩
 ·rw [h, if_pos (by simp)]
  have e : ((mementoseat_Create 0 3 1 1 0).bind fun y59 => ((mementoref16_New y59).bind fun (y61, y62) => (some y61))) = some ⟨0, 4, 2, 2, [2, 1], 0, 0, false, 0, [], []⟩ := by kernel_rfl
  exact ⟨_, e, rfl, by decide, by decide, by decide, by decide, by decide, fun w hw => by cases hw⟩
 ·have e : idx [v] (0 : Int) = some v := rfl
  rw [h, if_neg (by simp), e, Option.bind_some]
  exact ⟨v, rfl, hi.mono (by omega)⟩
def blank (v : Api_Volume) : List (List Int) := List.replicate v.Blocks.toNat (List.replicate v.Size.toNat 0)
def ovr (s : List (List Int)) (l : List Api_Item) : List (List Int) := l.foldl (fun s x => s.set x.Block.toNat x.Data) s
def stateL (v : Api_Volume) (t : Nat) : List (List Int) := (v.Writes.take t).foldl (fun s w => ovr s w.Items) (blank v)
theorem ovr_len : ∀ (l : List Api_Item) (s : List (List Int)), (ovr s l).length = s.length
 | [], s => rfl
 | x :: l, s => by
  show (ovr (s.set x.Block.toNat x.Data) l).length = _
  rw [ovr_len l, List.length_set]
theorem ovr_snoc (s : List (List Int)) (l : List Api_Item) (x : Api_Item) : ovr s (l ++ [x]) = (ovr s l).set x.Block.toNat x.Data := by unfold ovr; rw [List.foldl_append]; rfl
theorem stateL_len (v : Api_Volume) : ∀ t, (stateL v t).length = v.Blocks.toNat := fun t => by
 unfold stateL
 generalize v.Writes.take t = l
 have : ∀ (l : List Api_Write) (s : List (List Int)), (l.foldl (fun s w => ovr s w.Items) s).length = s.length := fun l => by
  induction l with
  | nil => intro s; rfl
  | cons w l ih => intro s; rw [List.foldl_cons, ih, ovr_len]
 rw [this]
 simp [blank]
theorem stateL_succ {v : Api_Volume} {t : Nat} (h : t < v.Writes.length) : stateL v (t + 1) = ovr (stateL v t) v.Writes[t].Items := by
 unfold stateL
 rw [List.take_succ_eq_append_getElem h, List.foldl_append]
 rfl
def RowOk (v : Api_Volume) (b : List Int) : Prop := (b.length : Int) = v.Size ∧ Byt b
theorem mem_set {α : Type} {l : List α} {i : Nat} {a x : α} (h : x ∈ l.set i a) : x ∈ l ∨ x = a := List.mem_or_eq_of_mem_set h
theorem ovr_row {v : Api_Volume} : ∀ (l : List Api_Item) (s : List (List Int)), (∀ x ∈ l, RowOk v x.Data) → (∀ b ∈ s, RowOk v b) → ∀ b ∈ ovr s l, RowOk v b
 | [], s, _, h => h
 | x :: l, s, hl, h => by
  show ∀ b ∈ ovr (s.set x.Block.toNat x.Data) l, RowOk v b
  refine ovr_row l _ (fun y hy => hl y (List.mem_cons_of_mem _ hy)) fun b hb => ?_
  rcases mem_set hb with q | q
  ·exact h b q
  ·rw [q]; exact hl x (List.mem_cons_self ..)
theorem stateL_row {n : Nat} {v : Api_Volume} (hv : VInv n v) : ∀ t, t ≤ v.Writes.length → ∀ b ∈ stateL v t, RowOk v b
 | 0, _, b, hb => by
  have hs := hv.size
  unfold stateL blank at hb
  simp only [List.take_zero, List.foldl_nil] at hb
  rw [(List.mem_replicate.1 hb).2]
  refine ⟨by rw [List.length_replicate]; omega, fun x hx => ?_⟩
  rw [(List.mem_replicate.1 hx).2]
  omega
 | t + 1, ht, b, hb => by
  rw [stateL_succ (by omega)] at hb
  refine ovr_row _ _ (fun x hx => ?_) (stateL_row hv t (by omega)) b hb
  have := (hv.items _ (List.getElem_mem (show t < v.Writes.length by omega))).2.2 x hx
  exact ⟨this.2.2.1, this.2.2.2⟩
theorem state_eq {n : Nat} {v : Api_Volume} (hv : VInv n v) (hn : n ≤ 1000) (hf : v.Floor = 0) {t : Nat} (ht : t ≤ v.Writes.length) : mementoref16_State v t = some (stateL v t, 0) := by
 have hb := hv.blocks
 have hs := hv.size
 have hw := hv.writes
 obtain ⟨B, hB⟩ := Int.eq_ofNat_of_zero_le (show 0 ≤ v.Blocks by omega)
 obtain ⟨S, hS⟩ := Int.eq_ofNat_of_zero_le (show 0 ≤ v.Size by omega)
 unfold mementoref16_State mementoref16_Len
 rw [hf, if_neg (by simp), Option.bind_some, if_neg (by simp; omega)]
 have l1 : loopN (mementoref16_State_L1 v) fuel (([] : List (List Int)), (0 : Int)) = some (blank v) := by
  refine loop_eqF (s := (([] : List (List Int)), (0 : Int))) (fun s => ∃ k : Nat, k ≤ B ∧ s = (List.replicate k (List.replicate S 0), (k : Int))) (fun s => B - s.2.toNat) (fun _ => blank v) ⟨0, by omega, rfl⟩ (by simp only; omega) ?_
  rintro _ ⟨k, hk, rfl⟩
  simp only [mementoref16_State_L1]
  rw [hB, hS]
  by_cases c : k < B
  ·right
   have em : mks 1 (0 : Int) (S : Int) = some (List.replicate S 0) := by unfold mks; rw [if_pos ⟨by omega, by omega, by omega⟩]; rfl
   rw [if_pos (by simpa using c), em, Option.bind_some, app_of (by simp; omega) (by simp; omega), Option.bind_some, next3 (by omega)]
   exact ⟨_, rfl, ⟨k + 1, c, by rw [← List.replicate_succ']⟩, by simp only [Int.toNat_natCast]; omega, by first | rfl | trivial⟩
  ·left
   have : k = B := by omega
   subst this
   rw [if_neg (by simp)]
   unfold blank
   rw [hB, hS]
   rfl
 rw [l1, Option.bind_some]
 have l2 : loopN (mementoref16_State_L2 v t) fuel ((0 : Int), blank v) = some (stateL v t) := by
  refine loop_eqF (s := ((0 : Int), blank v)) (fun s => ∃ k : Nat, k ≤ t ∧ s = ((k : Int), stateL v k)) (fun s => t - s.1.toNat) (fun _ => stateL v t) ⟨0, by omega, rfl⟩ (by simp only; omega) ?_
  rintro _ ⟨k, hk, rfl⟩
  simp only [mementoref16_State_L2]
  by_cases c : k < t
  ·right
   have hlt : k < v.Writes.length := by omega
   have hit := hv.items _ (List.getElem_mem hlt)
   have l3 : loopN (mementoref16_State_L3 v.Writes[k]) fuel ((0 : Int), stateL v k) = some (stateL v (k + 1)) := by
    rw [stateL_succ hlt]
    refine loop_eqF (s := ((0 : Int), stateL v k)) (fun s => ∃ j : Nat, j ≤ v.Writes[k].Items.length ∧ s = ((j : Int), ovr (stateL v k) (v.Writes[k].Items.take j))) (fun s => v.Writes[k].Items.length - s.1.toNat) (fun _ => ovr (stateL v k) v.Writes[k].Items) ⟨0, by omega, rfl⟩ (by simp only; omega) ?_
    rintro _ ⟨j, hj, rfl⟩
    simp only [mementoref16_State_L3]
    by_cases d : j < v.Writes[k].Items.length
    ·right
     obtain ⟨x1, x2, x3, x4⟩ := hit.2.2 _ (List.getElem_mem d)
     obtain ⟨b, hbk⟩ := Int.eq_ofNat_of_zero_le x1
     have hbl : b < (ovr (stateL v k) (v.Writes[k].Items.take j)).length := by rw [ovr_len, stateL_len]; omega
     rw [if_pos (by simpa using d), idx_at d, Option.bind_some, hbk, idx_at hbl, Option.bind_some, updL_nat hbl, Option.bind_some, next3 (by omega)]
     refine ⟨_, rfl, ⟨j + 1, d, ?_⟩, by simp only [Int.toNat_natCast]; omega, by first | rfl | trivial⟩
     rw [List.take_succ_eq_append_getElem d, ovr_snoc, hbk, Int.toNat_natCast]
    ·left
     have : j = v.Writes[k].Items.length := by omega
     subst this
     rw [if_neg (by simp), List.take_length]; rfl
   rw [if_pos (by simpa using c), idx_at hlt, Option.bind_some, l3, Option.bind_some, next3 (by omega)]
   exact ⟨_, rfl, ⟨k + 1, c, rfl⟩, by simp only [Int.toNat_natCast]; omega, by first | rfl | trivial⟩
  ·left
   have : k = t := by omega
   subst this
   rw [if_neg (by simp)]; rfl
 rw [l2]
 rfl
end Go.Proofs.YtgdbmgnfaefhoaaGreat.Am
namespace Go.Proofs.YtgdbmgnfaefhoaaGreat.Am
open Go
set_option linter.unusedVariables false
set_option linter.unusedSimpArgs false
set_option maxRecDepth 100000
def itOk (s : Api_Stream) (k : Nat) (h : k < s.Items.length) : Prop :=
 0 ≤ s.Items[k].Block ∧ s.Items[k].Block < s.Blocks ∧ (∀ h0 : 0 < k, (s.Items[k - 1]'(by omega)).Block < s.Items[k].Block) ∧ (s.Items[k].Data.length : Int) = s.Size
def hdOk (s : Api_Stream) : Prop := (1 ≤ s.Blocks ∧ s.Blocks ≤ 256) ∧ (1 ≤ s.Size ∧ s.Size ≤ 32) ∧ -1 ≤ s.From ∧ s.From ≤ s.To ∧ 0 ≤ s.To ∧ s.To ≤ 1099511627776 ∧ (s.From < 0 → (s.Items.length : Int) = s.Blocks)
def SRt (s : Api_Stream) : Prop := hdOk s ∧ ∀ k (h : k < s.Items.length), itOk s k h
theorem right_loop {s : Api_Stream} (hl : s.Items.length ≤ 100000) :
  ∃ t, loopN (stream_Right_L1 s) fuel (0 : Int) = some t ∧ ((t = .ret false ∧ ¬ (∀ k (h : k < s.Items.length), itOk s k h)) ∨ (t = .go () ∧ ∀ k (h : k < s.Items.length), itOk s k h)) := by
 refine loop_QF (s := (0 : Int)) (fun i => ∃ k : Nat, k ≤ s.Items.length ∧ i = (k : Int) ∧ ∀ j (h : j < s.Items.length), j < k → itOk s j h) (fun i => s.Items.length - i.toNat) _ ⟨0, by omega, rfl, fun j h q => absurd q (Nat.not_lt_zero _)⟩ (by simp; omega) ?_
 rintro _ ⟨k, hk, rfl, hall⟩
 simp only [stream_Right_L1]
 by_cases c : k < s.Items.length
 rotate_left
 ·left
  rw [if_neg (by simpa using c)]
  exact ⟨_, rfl, .inr ⟨rfl, fun j h => hall j h (by omega)⟩⟩
 rw [if_pos (by simpa using c), idx_at c, Option.bind_some]
 have bad : ∀ x : Prop, x → ¬ itOk s k c → ∃ t, (early (early (some false)) : Option (Ctl (Ctl Bool Unit) Int)) = some (.ret t) ∧ ((t = .ret false ∧ ¬ (∀ k (h : k < s.Items.length), itOk s k h)) ∨ (t = .go () ∧ ∀ k (h : k < s.Items.length), itOk s k h)) := fun _ _ hn => ⟨_, rfl, .inl ⟨rfl, fun q => hn (q k c)⟩⟩
 by_cases d1 : s.Items[k].Block < 0
 ·left
  rw [if_pos (by simpa using d1), Option.bind_some, if_pos rfl]
  exact bad True trivial fun q => by have := q.1; omega
 rw [if_neg (by simpa using d1)]
 by_cases d2 : s.Items[k].Block ≥ s.Blocks
 ·left
  rw [if_pos (by simpa using d2), Option.bind_some, if_pos rfl]
  exact bad True trivial fun q => by have := q.2.1; omega
 rw [if_neg (by simpa using d2)]
 have last : (∀ h0 : 0 < k, (s.Items[k - 1]'(by omega)).Block < s.Items[k].Block) → (∃ t, ((some ((s.Items[k].Data.length : Int) != s.Size)).bind fun t95 => (if t95 then (early (early (some false))) else (some (.go (IntKind.wrap .i64 ((k : Int) + 1))))) : Option (Ctl (Ctl Bool Unit) Int)) = some (.ret t) ∧ ((t = .ret false ∧ ¬ (∀ k (h : k < s.Items.length), itOk s k h)) ∨ (t = .go () ∧ ∀ k (h : k < s.Items.length), itOk s k h))) ∨
   ∃ s', ((some ((s.Items[k].Data.length : Int) != s.Size)).bind fun t95 => (if t95 then (early (early (some false))) else (some (.go (IntKind.wrap .i64 ((k : Int) + 1))))) : Option (Ctl (Ctl Bool Unit) Int)) = some (.go s') ∧ (∃ k : Nat, k ≤ s.Items.length ∧ s' = (k : Int) ∧ ∀ j (h : j < s.Items.length), j < k → itOk s j h) ∧ s.Items.length - s'.toNat < s.Items.length - (k : Int).toNat := fun hp => by
  by_cases d3 : (s.Items[k].Data.length : Int) = s.Size
  ·right
   rw [Option.bind_some, if_neg (by simpa using d3), next3 (by omega)]
   refine ⟨_, rfl, ⟨k + 1, c, rfl, fun j h hj => ?_⟩, by simp only [Int.toNat_natCast]; omega⟩
   by_cases e : j = k
   ·subst e; exact ⟨by omega, by omega, hp, d3⟩
   ·exact hall j h (by omega)
  ·left
   rw [Option.bind_some, if_pos (by simpa using d3)]
   exact bad True trivial fun q => d3 q.2.2.2
 by_cases k0 : 0 < k
 ·rw [if_pos (by simpa using k0), wrap64 (by omega) (by omega), show (k : Int) - 1 = ((k - 1 : Nat) : Int) by omega, idx_at (by omega), Option.bind_some]
  by_cases d4 : s.Items[k].Block ≤ (s.Items[k - 1]'(by omega)).Block
  ·left
   rw [if_pos (by simpa using d4), Option.bind_some, if_pos rfl]
   exact bad True trivial fun q => by have := q.2.2.1 k0; omega
  ·rw [if_neg (by simpa using d4)]
   exact last fun _ => by omega
 ·rw [if_neg (by simpa using k0)]
  exact last fun h => absurd h k0
theorem refright_loop {s : Api_Stream} (hl : s.Items.length ≤ 100000) :
  ∃ t, loopN (mementoref21_Right_L1 s) fuel ((-1 : Int), (0 : Int)) = some t ∧ ((t = .ret false ∧ ¬ (∀ k (h : k < s.Items.length), itOk s k h)) ∨ (t = .go () ∧ ∀ k (h : k < s.Items.length), itOk s k h)) := by
 refine loop_QF (s := ((-1 : Int), (0 : Int))) (fun i => ∃ k : Nat, k ≤ s.Items.length ∧ i.2 = (k : Int) ∧ -1 ≤ i.1 ∧ (∀ h : 0 < k, ∀ h2 : k - 1 < s.Items.length, i.1 = s.Items[k - 1].Block) ∧ (k = 0 → i.1 = -1) ∧ ∀ j (h : j < s.Items.length), j < k → itOk s j h) (fun i => s.Items.length - i.2.toNat) _ ⟨0, by omega, rfl, by simp, fun h => absurd h (Nat.lt_irrefl _), fun _ => rfl, fun j h q => absurd q (Nat.not_lt_zero _)⟩ (by simp only; omega) ?_
 rintro ⟨la, _⟩ ⟨k, hk, rfl, hla, hl1, hl0, hall⟩
 simp only at hla hl1 hl0 ⊢
 simp only [mementoref21_Right_L1]
 by_cases c : k < s.Items.length
 rotate_left
 ·left
  rw [if_neg (by simpa using c)]
  exact ⟨_, rfl, .inr ⟨rfl, fun j h => hall j h (by omega)⟩⟩
 rw [if_pos (by simpa using c), idx_at c, Option.bind_some]
 have lt : (∀ h0 : 0 < k, (s.Items[k - 1]'(by omega)).Block < s.Items[k].Block) ∧ 0 ≤ s.Items[k].Block ↔ la < s.Items[k].Block := by
  rcases Nat.eq_zero_or_pos k with e | e
  ·have := hl0 e
   constructor
   ·rintro ⟨_, h⟩; omega
   ·intro h; exact ⟨fun h0 => by omega, by omega⟩
  ·have := hl1 e (by omega)
   constructor
   ·rintro ⟨h, _⟩; have := h e; omega
   ·intro h
    refine ⟨fun _ => by omega, by omega⟩
 by_cases d1 : s.Items[k].Block ≤ la
 ·left
  rw [if_pos (by simpa using d1), Option.bind_some, if_pos rfl]
  exact ⟨_, rfl, .inl ⟨rfl, fun q => by
   obtain ⟨q1, q2, q3, q4⟩ := q k c
   have := lt.1 ⟨q3, q1⟩; omega⟩⟩
 rw [if_neg (by simpa using d1)]
 by_cases d2 : s.Items[k].Block ≥ s.Blocks
 ·left
  rw [if_pos (by simpa using d2), Option.bind_some, if_pos rfl]
  exact ⟨_, rfl, .inl ⟨rfl, fun q => by have := (q k c).2.1; omega⟩⟩
 rw [if_neg (by simpa using d2), Option.bind_some]
 by_cases d3 : (s.Items[k].Data.length : Int) = s.Size
 ·right
  obtain ⟨p1, p2⟩ := lt.2 (by omega)
  rw [if_neg (by simpa using d3), Option.bind_some, next3 (by omega)]
  refine ⟨_, rfl, ⟨k + 1, c, rfl, by simp only; omega, fun _ h2 => rfl, fun h => absurd h (Nat.succ_ne_zero _), fun j h hj => ?_⟩, by simp only [Int.toNat_natCast]; omega⟩
  by_cases e : j = k
  ·subst e; exact ⟨p2, by omega, p1, d3⟩
  ·exact hall j h (by omega)
 ·left
  rw [if_pos (by simpa using d3)]
  exact ⟨_, rfl, .inl ⟨rfl, fun q => d3 (q k c).2.2.2⟩⟩
theorem hd_cond {s : Api_Stream} {b : Bool} : (((if (decide (s.Blocks < 1)) then (some true) else (if (decide (s.Blocks > 256)) then (some true) else (if (decide (s.Size < 1)) then (some true) else (if (decide (s.Size > 32)) then (some true) else (if (decide (s.From < (-1))) then (some true) else (if (decide (s.To < (maxI s.From 0))) then (some true) else (if (decide (s.To > 1099511627776)) then (some true) else (if (decide (s.From < 0)) then (some ((s.Items.length : Int) != s.Blocks)) else (some false))))))))) : Option Bool) = some b) → (b = true ↔ ¬ hdOk s) := by
 have hm : ∀ y, y < maxI s.From 0 ↔ y < s.From ∨ y < 0 := fun y => by unfold maxI; split <;> omega
 intro h
 unfold hdOk
 split at h
 ·rename_i q; cases h; simp only [decide_eq_true_eq] at q; simp only [true_iff]; omega
 split at h
 ·rename_i q; cases h; simp only [decide_eq_true_eq] at q; simp only [true_iff]; omega
 split at h
 ·rename_i q; cases h; simp only [decide_eq_true_eq] at q; simp only [true_iff]; omega
 split at h
 ·rename_i q; cases h; simp only [decide_eq_true_eq] at q; simp only [true_iff]; omega
 split at h
 ·rename_i q; cases h; simp only [decide_eq_true_eq] at q; simp only [true_iff]; omega
 split at h
 ·rename_i q; cases h; simp only [decide_eq_true_eq, hm] at q; simp only [true_iff]; omega
 split at h
 ·rename_i q; cases h; simp only [decide_eq_true_eq] at q; simp only [true_iff]; omega
 rename_i q1 q2 q3 q4 q5 q6 q7
 simp only [decide_eq_true_eq, hm] at q1 q2 q3 q4 q5 q6 q7
 split at h
 ·rename_i q
  simp only [decide_eq_true_eq] at q
  cases h
  simp only [bne_iff_ne, ne_eq]
  omega
 ·rename_i q
  simp only [decide_eq_true_eq] at q
  cases h
  simp only [Bool.false_eq_true, false_iff, Classical.not_not]
  omega
open Classical in
theorem right_eq {s : Api_Stream} (hl : s.Items.length ≤ 100000) : stream_Right s = some (decide (SRt s)) := by
 unfold stream_Right
 obtain ⟨b, hb⟩ : ∃ b, ((if (decide (s.Blocks < 1)) then (some true) else (if (decide (s.Blocks > 256)) then (some true) else (if (decide (s.Size < 1)) then (some true) else (if (decide (s.Size > 32)) then (some true) else (if (decide (s.From < (-1))) then (some true) else (if (decide (s.To < (maxI s.From 0))) then (some true) else (if (decide (s.To > 1099511627776)) then (some true) else (if (decide (s.From < 0)) then (some ((s.Items.length : Int) != s.Blocks)) else (some false))))))))) : Option Bool) = some b := by
  repeat' split
  all_goals exact ⟨_, rfl⟩
 rw [hb, Option.bind_some]
 have hh := hd_cond hb
 obtain ⟨t, ht, hq⟩ := right_loop hl
 rw [ht]
 cases b
 ·have hd : hdOk s := Classical.not_not.1 fun q => by have := hh.2 q; cases this
  rw [if_neg (by simp)]
  rcases hq with ⟨rfl, q⟩ | ⟨rfl, q⟩
  ·rw [kont_ret, decide_eq_false fun h => q h.2]
  ·rw [kont_go', decide_eq_true (show SRt s from ⟨hd, q⟩)]
 ·rw [if_pos rfl, decide_eq_false fun h => hh.1 rfl h.1]
open Classical in
theorem refright_eq {s : Api_Stream} (hl : s.Items.length ≤ 100000) : mementoref21_Right s = some (decide (SRt s)) := by
 unfold mementoref21_Right
 obtain ⟨b, hb, hh⟩ : ∃ b, ((if (decide (s.Blocks < 1)) then (some true) else (if (decide (s.Blocks > 256)) then (some true) else (if (decide (s.Size < 1)) then (some true) else (if (decide (s.Size > 32)) then (some true) else (if (decide (s.From < (-1))) then (some true) else (if (decide (s.To < 0)) then (some true) else (if (decide (s.To > 1099511627776)) then (some true) else (if (decide (s.To < s.From)) then (some true) else (if (decide (s.From < 0)) then (some ((s.Items.length : Int) != s.Blocks)) else (some false)))))))))) : Option Bool) = some b ∧ (b = true ↔ ¬ hdOk s) := by
  unfold hdOk
  split
  ·rename_i q; simp only [decide_eq_true_eq] at q; exact ⟨_, rfl, by simp only [true_iff]; omega⟩
  split
  ·rename_i q; simp only [decide_eq_true_eq] at q; exact ⟨_, rfl, by simp only [true_iff]; omega⟩
  split
  ·rename_i q; simp only [decide_eq_true_eq] at q; exact ⟨_, rfl, by simp only [true_iff]; omega⟩
  split
  ·rename_i q; simp only [decide_eq_true_eq] at q; exact ⟨_, rfl, by simp only [true_iff]; omega⟩
  split
  ·rename_i q; simp only [decide_eq_true_eq] at q; exact ⟨_, rfl, by simp only [true_iff]; omega⟩
  split
  ·rename_i q; simp only [decide_eq_true_eq] at q; exact ⟨_, rfl, by simp only [true_iff]; omega⟩
  split
  ·rename_i q; simp only [decide_eq_true_eq] at q; exact ⟨_, rfl, by simp only [true_iff]; omega⟩
  split
  ·rename_i q; simp only [decide_eq_true_eq] at q; exact ⟨_, rfl, by simp only [true_iff]; omega⟩
  rename_i q1 q2 q3 q4 q5 q6 q7 q8
  simp only [decide_eq_true_eq] at q1 q2 q3 q4 q5 q6 q7 q8
  split
  ·rename_i q
   simp only [decide_eq_true_eq] at q
   refine ⟨_, rfl, ?_⟩
   simp only [bne_iff_ne, ne_eq]
   omega
  ·rename_i q
   simp only [decide_eq_true_eq] at q
   refine ⟨_, rfl, ?_⟩
   simp only [Bool.false_eq_true, false_iff, Classical.not_not]
   omega
 rw [hb, Option.bind_some]
 obtain ⟨t, ht, hq⟩ := refright_loop hl
 rw [ht]
 cases b
 ·have hd : hdOk s := Classical.not_not.1 fun q => by have := hh.2 q; cases this
  rw [if_neg (by simp)]
  rcases hq with ⟨rfl, q⟩ | ⟨rfl, q⟩
  ·rw [kont_ret, decide_eq_false fun h => q h.2]
  ·rw [kont_go', decide_eq_true (show SRt s from ⟨hd, q⟩)]
 ·rw [if_pos rfl, decide_eq_false fun h => hh.1 rfl h.1]
end Go.Proofs.YtgdbmgnfaefhoaaGreat.Am
namespace Go.Proofs.YtgdbmgnfaefhoaaGreat.Am
open Go
set_option linter.unusedVariables false
set_option linter.unusedSimpArgs false
set_option maxRecDepth 100000
def magicB : List Int := [77, 69, 77, 79, 49]
def hdB (s : Api_Stream) : List Int := magicB ++ putS [s.Blocks, s.Size, s.From + 1, s.To, (s.Items.length : Int)]
def itS (x : Api_Item) : List Int := sealL (nb x.Block.toNat ++ x.Data)
def bodyB (s : Api_Stream) : List Int := sealL (hdB s) ++ (s.Items.map itS).flatten
def streamB (s : Api_Stream) : List Int := sealL (bodyB s)
def Good (s : Api_Stream) : Prop := SRt s ∧ ∀ x ∈ s.Items, Byt x.Data
theorem SRt.ge {s : Api_Stream} (h : SRt s) : ∀ k (hk : k < s.Items.length), (k : Int) ≤ s.Items[k].Block
 | 0, hk => (h.2 0 hk).1
 | k + 1, hk => by
  have h1 := SRt.ge h k (by omega)
  have h2 := (h.2 (k + 1) hk).2.2.1 (Nat.succ_pos _)
  simp only [Nat.add_sub_cancel] at h2
  omega
theorem SRt.len {s : Api_Stream} (h : SRt s) : (s.Items.length : Int) ≤ s.Blocks := by
 rcases Nat.eq_zero_or_pos s.Items.length with e | e
 ·have := h.1.1; omega
 ·have h1 := h.ge (s.Items.length - 1) (by omega)
  have h2 := (h.2 (s.Items.length - 1) (by omega)).2.1
  omega
theorem SRt.item {s : Api_Stream} (h : SRt s) {x : Api_Item} (hx : x ∈ s.Items) : 0 ≤ x.Block ∧ x.Block < s.Blocks ∧ (x.Data.length : Int) = s.Size := by
 obtain ⟨k, hk, rfl⟩ := List.getElem_of_mem hx
 have := h.2 k hk
 exact ⟨this.1, this.2.1, this.2.2.2⟩
theorem Good.itR {s : Api_Stream} (h : Good s) {x : Api_Item} (hx : x ∈ s.Items) : ItR x := by
 have h1 := h.1.item hx
 have h2 := h.1.1
 unfold hdOk at h2
 exact ⟨⟨h1.1, by omega⟩, by omega, h.2 x hx⟩
theorem magic_byt : Byt magicB := fun x hx => by
 simp only [magicB, List.mem_cons, List.not_mem_nil, or_false] at hx
 omega
theorem SRt.u64 {s : Api_Stream} (h : SRt s) : U64 [s.Blocks, s.Size, s.From + 1, s.To, (s.Items.length : Int)] := by
 have h2 := h.1
 have h3 := h.len
 unfold hdOk at h2
 intro x hx
 simp only [List.mem_cons, List.not_mem_nil, or_false] at hx
 rcases hx with rfl | rfl | rfl | rfl | rfl <;> omega
theorem hdB_len {s : Api_Stream} (h : SRt s) : (hdB s).length ≤ 55 ∧ Byt (hdB s) := by
 have := putS_len h.u64
 simp only [List.length_cons, List.length_nil] at this
 refine ⟨?_, magic_byt.app (putS_byt _)⟩
 unfold hdB
 rw [List.length_append]
 simp only [magicB, List.length_cons, List.length_nil]
 omega
theorem itS_len {x : Api_Item} (h : ItR x) : (itS x).length ≤ 60 ∧ Byt (itS x) := by
 have h1 := (nb_len (n := x.Block.toNat) (by have := h.1; omega)).1
 have := h.2.1
 refine ⟨?_, sealL_byt ((nb_byt _).app h.2.2)⟩
 unfold itS
 rw [sealL_len, List.length_append]
 omega
theorem flatS : ∀ {l : List Api_Item}, (∀ x ∈ l, ItR x) → (l.map itS).flatten.length ≤ 60 * l.length ∧ Byt (l.map itS).flatten
 | [], _ => ⟨by simp, fun x hx => by simp at hx⟩
 | x :: l, h => by
  have h1 := itS_len (h x (List.mem_cons_self ..))
  have h2 := flatS (l := l) fun y hy => h y (List.mem_cons_of_mem _ hy)
  simp only [List.map_cons, List.flatten_cons, List.length_append, List.length_cons]
  exact ⟨by omega, h1.2.app h2.2⟩
theorem flatS_take {l : List Api_Item} {k : Nat} (h : k < l.length) : ((l.take (k + 1)).map itS).flatten = ((l.take k).map itS).flatten ++ itS l[k] := by
 rw [List.take_succ_eq_append_getElem h, List.map_append, List.flatten_append]; simp only [List.map_cons, List.map_nil, List.flatten_cons, List.flatten_nil, List.append_nil]
theorem flatS_drop {l : List Api_Item} {k : Nat} (h : k < l.length) : ((l.drop k).map itS).flatten = itS l[k] ++ ((l.drop (k + 1)).map itS).flatten := by
 rw [show l.drop k = l[k] :: l.drop (k + 1) by rw [List.getElem_cons_drop]]; simp only [List.map_cons, List.flatten_cons]
theorem bodyB_len {s : Api_Stream} (h : Good s) : (bodyB s).length ≤ 16000 ∧ Byt (bodyB s) := by
 have h1 := hdB_len h.1
 have h2 := flatS (fun x hx => h.itR hx)
 have h3 := h.1.len
 have h4 := h.1.1.1
 refine ⟨?_, (sealL_byt h1.2).app h2.2⟩
 unfold bodyB
 rw [List.length_append, sealL_len]
 omega
theorem streamB_len {s : Api_Stream} (h : Good s) : (streamB s).length ≤ 16004 ∧ Byt (streamB s) ∧ (streamB s).length = (bodyB s).length + 4 := by
 have h1 := bodyB_len h
 unfold streamB
 rw [sealL_len]
 exact ⟨by omega, sealL_byt h1.2, rfl⟩
theorem wraps {s : Api_Stream} (h : SRt s) : ([(IntKind.wrap .u64 s.Blocks), (IntKind.wrap .u64 s.Size), (IntKind.wrap .u64 (IntKind.wrap .i64 (s.From + 1))), (IntKind.wrap .u64 s.To), (IntKind.wrap .u64 (s.Items.length : Int))] : List Int) = [s.Blocks, s.Size, s.From + 1, s.To, (s.Items.length : Int)] := by
 have h2 := h.1
 have h3 := h.len
 unfold hdOk at h2
 rw [wrap64u (n := s.Blocks) (by omega) (by omega), wrap64u (n := s.Size) (by omega) (by omega), wrap64 (n := s.From + 1) (by omega) (by omega), wrap64u (n := s.From + 1) (by omega) (by omega), wrap64u (n := s.To) (by omega) (by omega), wrap64u (n := (s.Items.length : Int)) (by omega) (by omega)]
open Classical in
theorem put_good {s : Api_Stream} (h : Good s) : stream_Put s = some (streamB s, 0) ∧ mementoref21_Put s = some (streamB s, 0) := by
 have h1 := hdB_len h.1
 have h3 := h.1.len
 have h4 := h.1.1.1
 have hb := bodyB_len h
 have hS1 := seal_eq h1.2 (by omega)
 have hS2 := seal_eq hb.2 (by omega)
 have hpu := put_eq h.1.u64 (by simp)
 have hpl := putS_len h.1.u64
 simp only [List.length_cons, List.length_nil] at hpl
 have happ : app 1 ([77, 69, 77, 79, 49] : List Int) (putS [s.Blocks, s.Size, s.From + 1, s.To, (s.Items.length : Int)]) = some (hdB s) := by
  rw [app_of (by simp only [List.length_cons, List.length_nil]; omega) (by simp only [List.length_cons, List.length_nil]; omega)]; rfl
 have hpart : ∀ k, k ≤ s.Items.length → (sealL (hdB s) ++ ((s.Items.take k).map itS).flatten).length ≤ 16000 := fun k hk => by
  have := flatS (l := s.Items.take k) fun x hx => h.itR (List.mem_of_mem_take hx)
  rw [List.length_take] at this
  rw [List.length_append, sealL_len]
  omega
 constructor
 ·unfold stream_Put
  rw [right_eq (by omega), Option.bind_some, decide_eq_true h.1, if_neg (by simp), wraps h.1, hpu, Option.bind_some, happ, Option.bind_some, hS1.1, Option.bind_some]
  rw [loop_eqF (s := (sealL (hdB s), (0 : Int))) (fun t => ∃ k : Nat, k ≤ s.Items.length ∧ t = (sealL (hdB s) ++ ((s.Items.take k).map itS).flatten, (k : Int))) (fun t => s.Items.length - t.2.toNat) (fun _ => bodyB s) ⟨0, by omega, by simp⟩ (by simp only; omega)]
  ·rw [Option.bind_some, hS2.1]; rfl
  rintro _ ⟨k, hk, rfl⟩
  simp only [stream_Put_L1]
  by_cases c : k < s.Items.length
  ·right
   have hx := h.itR (List.getElem_mem c)
   obtain ⟨⟨x0, x1⟩, x2, x3⟩ := hx
   have hn := (nb_len (n := s.Items[k].Block.toNat) (by omega)).1
   have hfl : ([nb s.Items[k].Block.toNat, s.Items[k].Data] : List (List Int)).flatten = nb s.Items[k].Block.toNat ++ s.Items[k].Data := by simp
   have hp1 := hpart k hk
   have hs3 := seal_eq (b := nb s.Items[k].Block.toNat ++ s.Items[k].Data) ((nb_byt _).app x3) (by rw [List.length_append]; omega)
   have hil := (itS_len ⟨⟨x0, x1⟩, x2, x3⟩).1
   rw [if_pos (by simpa using c), idx_at c, Option.bind_some, wrap64u x0 (by omega), put_eq (fun y hy => by simp at hy; omega) (by simp), Option.bind_some, putS_one, join_eq (by simp) (by rw [hfl, List.length_append]; omega), Option.bind_some, hfl, hs3.1, Option.bind_some,
    show sealL (nb s.Items[k].Block.toNat ++ s.Items[k].Data) = itS s.Items[k] from rfl, app_of (by omega) (by omega), Option.bind_some, next3 (by omega)]
   exact ⟨_, rfl, ⟨k + 1, c, by rw [flatS_take c, List.append_assoc]⟩, by simp only [Int.toNat_natCast]; omega, by first | rfl | trivial⟩
  ·left
   have : k = s.Items.length := by omega
   subst this
   rw [if_neg (by simp), List.take_length]; rfl
 ·unfold mementoref21_Put
  rw [refright_eq (by omega), Option.bind_some, decide_eq_true h.1, if_neg (by simp), wraps h.1, refPut_is, hpu, Option.bind_some, happ, Option.bind_some, hS1.2, Option.bind_some]
  rw [loop_eqF (s := (sealL (hdB s), (0 : Int))) (fun t => ∃ k : Nat, k ≤ s.Items.length ∧ t = (sealL (hdB s) ++ ((s.Items.take k).map itS).flatten, (k : Int))) (fun t => s.Items.length - t.2.toNat) (fun _ => bodyB s) ⟨0, by omega, by simp⟩ (by simp only; omega)]
  ·have hl := four_len (crcV (bodyB s))
   rw [Option.bind_some, (sum_eq hb.2 (by omega)).2, Option.bind_some, (four_eq _).2, Option.bind_some, app_of (by omega) (by omega)]; rfl
  rintro _ ⟨k, hk, rfl⟩
  simp only [mementoref21_Put_L1]
  by_cases c : k < s.Items.length
  ·right
   have hx := h.itR (List.getElem_mem c)
   obtain ⟨⟨x0, x1⟩, x2, x3⟩ := hx
   have hn := (nb_len (n := s.Items[k].Block.toNat) (by omega)).1
   have hp1 := hpart k hk
   have hs3 := seal_eq (b := nb s.Items[k].Block.toNat ++ s.Items[k].Data) ((nb_byt _).app x3) (by rw [List.length_append]; omega)
   have hil := (itS_len ⟨⟨x0, x1⟩, x2, x3⟩).1
   rw [if_pos (by simpa using c), idx_at c, Option.bind_some, wrap64u x0 (by omega), refPut_is, put_eq (fun y hy => by simp at hy; omega) (by simp), Option.bind_some, putS_one, app_of (by omega) (by omega), Option.bind_some, hs3.2, Option.bind_some,
    show sealL (nb s.Items[k].Block.toNat ++ s.Items[k].Data) = itS s.Items[k] from rfl, app_of (by omega) (by omega), Option.bind_some, next3 (by omega)]
   exact ⟨_, rfl, ⟨k + 1, c, by rw [flatS_take c, List.append_assoc]⟩, by simp only [Int.toNat_natCast]; omega, by first | rfl | trivial⟩
  ·left
   have : k = s.Items.length := by omega
   subst this
   rw [if_neg (by simp), List.take_length]; rfl
open Classical in
theorem put_bad {s : Api_Stream} (hl : s.Items.length ≤ 100000) (h : ¬ SRt s) : stream_Put s = some ([], 23) ∧ mementoref21_Put s = some ([], 23) := by
 constructor
 ·unfold stream_Put
  rw [right_eq hl, Option.bind_some, decide_eq_false h]; rfl
 ·unfold mementoref21_Put
  rw [refright_eq hl, Option.bind_some, decide_eq_false h]; rfl
end Go.Proofs.YtgdbmgnfaefhoaaGreat.Am
namespace Go.Proofs.YtgdbmgnfaefhoaaGreat.Am
open Go
set_option linter.unusedVariables false
set_option linter.unusedSimpArgs false
set_option maxRecDepth 100000
def rdS (r : Rd) : Nat → Rd
 | 0 => r
 | j + 1 => (numR (rdS r j) 1099511627777).2
def numsR (r : Rd) (n : Nat) : List Int := (List.range n).map fun i => (numR (rdS r i) 1099511627777).1
theorem numsR_len (r : Rd) (n : Nat) : (numsR r n).length = n := by simp [numsR]
theorem numsR_succ (r : Rd) (n : Nat) : numsR r (n + 1) = numsR r n ++ [(numR (rdS r n) 1099511627777).1] := by simp [numsR, List.range_succ]
theorem numsR_at {r : Rd} {n i : Nat} (h : i < n) : (numsR r n)[i]? = some (numR (rdS r i) 1099511627777).1 := by simp [numsR, h]
theorem numR_suf (r : Rd) (most : Int) : ∃ k, k ≤ r.1.length ∧ (numR r most).2.1 = r.1.drop k := by
 have nil : ∃ k, k ≤ r.1.length ∧ ([] : List Int) = r.1.drop k := ⟨r.1.length, Nat.le_refl _, by simp⟩
 have hsp := nR_spec r.1 0 0 (by omega) (by omega)
 unfold numR
 split
 ·exact ⟨0, Nat.zero_le _, rfl⟩
 ·split
  ·exact nil
  ·rename_i v s e he
   split
   ·exact nil
   ·split
    ·exact nil
    ·by_cases hs : s ≤ r.1.length
     ·exact ⟨s, hs, rfl⟩
     ·exact ⟨r.1.length, Nat.le_refl _, by rw [List.drop_eq_nil_of_le (by omega), List.drop_length]⟩
theorem numR_le (r : Rd) {most : Int} (h : 0 ≤ most) : (numR r most).1 ≤ most := by
 unfold numR
 split
 ·exact h
 ·split
  ·exact h
  ·split
   ·exact h
   ·split
    ·exact h
    ·simp only; omega
theorem rdS_ok {r : Rd} (h : RdOk r) : ∀ j, RdOk (rdS r j) ∧ ∃ k, k ≤ r.1.length ∧ (rdS r j).1 = r.1.drop k
 | 0 => ⟨h, 0, Nat.zero_le _, rfl⟩
 | j + 1 => by
  obtain ⟨h1, k, hk, e⟩ := rdS_ok h j
  obtain ⟨k2, hk2, e2⟩ := numR_suf (rdS r j) 1099511627777
  refine ⟨(num_ok h1 _).1, ?_⟩
  rw [e] at e2 hk2
  rw [List.length_drop] at hk2
  refine ⟨k + k2, by omega, ?_⟩
  show (numR (rdS r j) 1099511627777).2.1 = _
  rw [e2, List.drop_drop]
theorem numbers_eq {b : List Int} (hb : RdOk (b, 0)) {n : Nat} (hn : n ≤ 100) : stream_numbers b n = some (numsR (b, 0) n, (rdS (b, 0) n).1, ((rdS (b, 0) n).2 == 0)) := by
 unfold stream_numbers
 rw [new_eq hb.2, Option.bind_some]
 have hl : loopN (stream_numbers_L1 n) fuel (([] : List Int), (0 : Int), (rdP (b, 0)).rest) = some (numsR (b, 0) n, (rdP (rdS (b, 0) n)).rest) := by
  refine loop_eqF (s := (([] : List Int), (0 : Int), (rdP (b, 0)).rest)) (fun s => ∃ k : Nat, k ≤ n ∧ s = (numsR (b, 0) k, (k : Int), (rdP (rdS (b, 0) k)).rest)) (fun s => n - s.2.1.toNat) (fun _ => (numsR (b, 0) n, (rdP (rdS (b, 0) n)).rest)) ⟨0, by omega, rfl⟩ (by simp only; omega) ?_
  rintro _ ⟨k, hk, rfl⟩
  simp only [stream_numbers_L1]
  by_cases c : k < n
  ·right
   have hok := (rdS_ok hb k).1
   have hno := num_ok hok 1099511627777
   have hle := numR_le (rdS (b, 0) k) (most := 1099511627777) (by omega)
   have e : Pack_Reader.mk (rdP (rdS (b, 0) k)).rest = rdP (rdS (b, 0) k) := rfl
   have hln := numsR_len (b, 0) k
   rw [if_pos (by simpa using c), e, packNum_eq hok, Option.bind_some]
   simp only
   rw [wrap64 (by omega) (by omega), app_of (by simp only [List.length_cons, List.length_nil]; omega) (by simp only [List.length_cons, List.length_nil]; omega), Option.bind_some, next3 (by omega)]
   exact ⟨_, rfl, ⟨k + 1, c, by rw [numsR_succ]; rfl⟩, by simp only [Int.toNat_natCast]; omega, by first | rfl | trivial⟩
  ·left
   have : k = n := by omega
   subst this
   rw [if_neg (by simp)]; rfl
 rw [hl, Option.bind_some]
 simp only
 obtain ⟨_, k, hk, e⟩ := rdS_ok hb n
 have e1 : pack_rest_Left (rdP (rdS (b, 0) n)).rest = some ((rdS (b, 0) n).1.length : Int) := rfl
 have e2 : pack_rest_Err (rdP (rdS (b, 0) n)).rest = some (rdS (b, 0) n).2 := rfl
 have hl2 : (rdS (b, 0) n).1.length = b.length - k := by rw [e]; simp
 have hbl := hb.2
 simp only at hbl hk
 rw [e1, Option.bind_some, wrap64 (by omega) (by omega), hl2, show (b.length : Int) - ((b.length - k : Nat) : Int) = (k : Int) by omega, slc_nat b hk (Nat.le_refl _), List.take_length, Option.bind_some, e2, Option.bind_some, e]
theorem rdS_put {l t : List Int} (h : ∀ x ∈ l, 0 ≤ x ∧ x ≤ 1099511627777) : ∀ j, j ≤ l.length → rdS (putS l ++ t, 0) j = (putS (l.drop j) ++ t, 0)
 | 0, _ => rfl
 | j + 1, hj => by
  show (numR (rdS (putS l ++ t, 0) j) 1099511627777).2 = _
  have hx := h _ (List.getElem_mem (show j < l.length by omega))
  rw [rdS_put h j (by omega), putS_drop (by omega), List.append_assoc, numR_put _ hx.1 (by omega), if_neg (by omega)]
theorem numsR_put {l t : List Int} (h : ∀ x ∈ l, 0 ≤ x ∧ x ≤ 1099511627777) : numsR (putS l ++ t, 0) l.length = l := by
 apply List.ext_getElem?
 intro i
 by_cases hi : i < l.length
 ·have hx := h _ (List.getElem_mem hi)
  rw [numsR_at hi, rdS_put h i (by omega), putS_drop hi, List.append_assoc, numR_put _ hx.1 (by omega), if_neg (by omega), List.getElem?_eq_getElem hi]
 ·rw [List.getElem?_eq_none (by rw [numsR_len]; omega), List.getElem?_eq_none (by omega)]
theorem cut_eq {a : List Int} (hl : a.length ≤ 1000000) : bytes_CutPrefix a magicB = some (if 5 ≤ a.length ∧ strOf (a.take 5) = strOf magicB then (a.drop 5, true) else (a, false)) := by
 unfold bytes_CutPrefix bytes_HasPrefix bytes_Equal
 have hm : (magicB.length : Int) = 5 := rfl
 rw [hm]
 by_cases c : 5 ≤ a.length
 ·have s1 := slc_nat a (a := 0) (b := 5) (by omega) c
  have s2 := slc_nat a (a := 5) (b := a.length) c (Nat.le_refl _)
  rw [List.drop_zero] at s1
  rw [List.take_length] at s2
  have z : ((0 : Nat) : Int) = 0 := rfl
  have z5 : ((5 : Nat) : Int) = 5 := rfl
  rw [z, z5] at s1
  rw [z5] at s2
  rw [if_pos (by simp; omega), s1, Option.bind_some, Option.bind_some, Option.bind_some, Option.bind_some, s2]
  by_cases d : strOf (a.take 5) = strOf magicB
  ·rw [if_neg (by simpa using d), if_pos ⟨c, d⟩]; rfl
  ·rw [if_pos (by simpa using d), if_neg (fun h => d h.2)]
 ·rw [if_neg (by simp; omega), Option.bind_some, Option.bind_some, if_pos (by simp), if_neg (fun h => c h.1)]
theorem parsed_ok {a : List Int} (ha : Byt a) (hl : a.length ≤ 100000) : ∃ s b, stream_parsed a = some (s, b) ∧ s.Items.length ≤ 100000 ∧ ∀ x ∈ s.Items, Byt x.Data := by
 unfold stream_parsed
 rw [show ([77, 69, 77, 79, 49] : List Int) = magicB from rfl, cut_eq (by omega), Option.bind_some]
 by_cases c : 5 ≤ a.length ∧ strOf (a.take 5) = strOf magicB
 rotate_left
 ·rw [if_neg c]
  exact ⟨_, _, rfl, by simp, fun x hx => by cases hx⟩
 rw [if_pos c]
 simp only [Bool.not_true, Bool.false_eq_true, if_false]
 have hr : RdOk (a.drop 5, 0) := ⟨ha.drop 5, by simp only [List.length_drop]; omega⟩
 obtain ⟨hr5, k5, hk5, e5⟩ := rdS_ok hr 5
 have n5 := numbers_eq hr (n := 5) (by omega)
 rw [show ((5 : Nat) : Int) = 5 from rfl] at n5
 rw [n5, Option.bind_some]
 simp only
 have hlen := numsR_len (a.drop 5, 0) 5
 obtain ⟨L, hL⟩ : ∃ L, numsR (a.drop 5, 0) 5 = L := ⟨_, rfl⟩
 obtain ⟨R, hR⟩ : ∃ R, rdS (a.drop 5, 0) 5 = R := ⟨_, rfl⟩
 have hrng : ∀ i (h : i < L.length), 0 ≤ L[i] ∧ L[i] ≤ 1099511627777 := fun i h => by
  have h5 : i < 5 := by rw [← hL, hlen] at h; exact h
  have := numsR_at (r := (a.drop 5, 0)) h5
  rw [hL, List.getElem?_eq_getElem h] at this
  have e := Option.some.inj this
  rw [e]
  exact ⟨(num_ok (rdS_ok hr i).1 _).2.1, numR_le _ (by omega)⟩
 rw [hL] at hlen
 rw [hR] at hr5 e5
 rw [hL, hR]
 have i0 := idx_at (l := L) (i := 0) (by omega)
 have i1 := idx_at (l := L) (i := 1) (by omega)
 have i2 := idx_at (l := L) (i := 2) (by omega)
 have i3 := idx_at (l := L) (i := 3) (by omega)
 have i4 := idx_at (l := L) (i := 4) (by omega)
 have r1 := hrng 1 (by omega)
 have hRl : R.1.length ≤ 100000 := by rw [e5, List.length_drop, List.length_drop]; omega
 have t40 : ∃ b, (if (!(R.2 == 0)) then (some true) else (if (decide ((R.1.length : Int) < 4)) then (some true) else ((idx L 1).bind fun x => (some (decide (x > 32)))))) = some b ∧ (b = false → 4 ≤ R.1.length ∧ L[1] ≤ 32) := by
  split
  ·exact ⟨true, rfl, fun h => by cases h⟩
  split
  ·exact ⟨true, rfl, fun h => by cases h⟩
  ·rename_i q
   simp only [decide_eq_true_eq] at q
   refine ⟨_, by rw [show (1 : Int) = ((1 : Nat) : Int) from rfl, i1]; rfl, fun h => ?_⟩
   simp only [decide_eq_false_iff_not] at h
   exact ⟨by omega, by omega⟩
 obtain ⟨b, hb, hbf⟩ := t40
 rw [hb, Option.bind_some]
 cases b
 rotate_left
 ·exact ⟨_, _, rfl, by simp, fun x hx => by cases hx⟩
 obtain ⟨q4, q32⟩ := hbf rfl
 obtain ⟨S, hS⟩ := Int.eq_ofNat_of_zero_le r1.1
 rw [if_neg (by simp)]
 rw [show (0 : Int) = ((0 : Nat) : Int) from rfl, show (1 : Int) = ((1 : Nat) : Int) from rfl, show (2 : Int) = ((2 : Nat) : Int) from rfl, show (3 : Int) = ((3 : Nat) : Int) from rfl, show (4 : Int) = ((4 : Nat) : Int) from rfl]
 rw [i0, Option.bind_some, i1, Option.bind_some, i2, Option.bind_some, i3, Option.bind_some, slc_nat R.1 q4 (Nat.le_refl _), List.take_length, Option.bind_some, hS]
 obtain ⟨t, ht, hq⟩ := loop_QF (b := stream_parsed_L1 L (S : Int)) (s := (R.1.drop 4, ((0 : Nat) : Int), ([] : List Api_Item))) (fun s => ∃ i : Nat, s.2.1 = (i : Int) ∧ i = s.2.2.length ∧ RdOk (s.1, 0) ∧ s.1.length + s.2.2.length ≤ 100000 ∧ ∀ x ∈ s.2.2, Byt x.Data) (fun s => s.1.length)
  (fun t => (∃ z, t = .ret (z, false) ∧ z.Items = []) ∨ ∃ l, t = .go l ∧ l.length ≤ 100000 ∧ ∀ x ∈ l, Byt x.Data)
  ⟨0, rfl, rfl, ⟨hr5.1.drop 4, by simp only [List.length_drop]; omega⟩, by simp; omega, fun x hx => by cases hx⟩ (by simp; omega) (by
  rintro ⟨rest, _, items⟩ ⟨i, rfl, hi, hrr, hlen2, hit⟩
  simp only at hi hrr hlen2 hit ⊢
  simp only [stream_parsed_L1]
  rw [show (4 : Int) = ((4 : Nat) : Int) from rfl, i4, Option.bind_some]
  have stop : (∃ t, ((some false).bind fun t67 => (if t67 then ((stream_numbers rest 1).bind fun (y82, y83, y84) => ((if (!y84) then (some true) else (some (decide ((y83.length : Int) < (IntKind.wrap .i64 ((S : Int) + ((4 : Nat) : Int))))))).bind fun t85 => (if t85 then (early (early (some ((Api_Stream.mk 0 0 0 0 ([] : (List Api_Item))), false)))) else ((idx y82 0).bind fun x100 => ((slc y83 0 (S : Int)).bind fun m101 => ((slices_Clone_Lbyte_byte m101).bind fun y102 => ((app 32 items ([(Api_Item.mk x100 y102)] : (List Api_Item))).bind fun m104 => ((slc y83 (IntKind.wrap .i64 ((S : Int) + ((4 : Nat) : Int))) (y83.length : Int)).bind fun m119 => (some (.go (m119, (IntKind.wrap .i64 ((i : Int) + 1)), m104))))))))))) else (early (some (.go items)))) : Option (Ctl (Ctl (Api_Stream × Bool) (List Api_Item)) ((List Int) × Int × (List Api_Item)))) = some (.ret t) ∧ ((∃ z, t = .ret (z, false) ∧ z.Items = []) ∨ ∃ l, t = .go l ∧ l.length ≤ 100000 ∧ ∀ x ∈ l, Byt x.Data)) := ⟨_, rfl, .inr ⟨items, rfl, by omega, hit⟩⟩
  by_cases c4 : (i : Int) < L[4]
  rotate_left
  ·left
   rw [if_neg (by simpa using c4)]
   exact stop
  rw [if_pos (by simpa using c4)]
  by_cases c0 : (rest.length : Int) > 0
  rotate_left
  ·left
   rw [decide_eq_false c0]
   exact stop
  rw [decide_eq_true c0, Option.bind_some, if_pos rfl]
  have n1 := numbers_eq hrr (n := 1) (by omega)
  obtain ⟨ho1, k1, hk1, e1⟩ := rdS_ok hrr 1
  simp only at hk1 e1
  have z0 := numsR_at (r := (rest, 0)) (show 0 < 1 by omega)
  rw [show ((1 : Nat) : Int) = 1 from rfl] at n1
  rw [n1, Option.bind_some]
  simp only
  generalize numsR (rest, 0) 1 = N1 at z0 ⊢
  generalize (numR (rdS (rest, 0) 0) 1099511627777).1 = V1 at z0
  generalize rdS (rest, 0) 1 = R1 at ho1 e1 ⊢
  have hRl2 : R1.1.length ≤ rest.length := by rw [e1, List.length_drop]; omega
  have ew : IntKind.wrap .i64 ((S : Int) + ((4 : Nat) : Int)) = ((S + 4 : Nat) : Int) := by rw [wrap64 (by omega) (by omega)]; omega
  rw [ew]
  have bad : (∃ t, (early (early (some ((Api_Stream.mk 0 0 0 0 ([] : (List Api_Item))), false))) : Option (Ctl (Ctl (Api_Stream × Bool) (List Api_Item)) ((List Int) × Int × (List Api_Item)))) = some (.ret t) ∧ ((∃ z, t = .ret (z, false) ∧ z.Items = []) ∨ ∃ l, t = .go l ∧ l.length ≤ 100000 ∧ ∀ x ∈ l, Byt x.Data)) := ⟨_, rfl, .inl ⟨_, rfl, rfl⟩⟩
  by_cases d1 : (R1.2 == 0) = true
  rotate_left
  ·left
   rw [if_pos (by simpa using d1), Option.bind_some, if_pos rfl]
   exact bad
  rw [if_neg (by simpa using d1), Option.bind_some]
  by_cases d2 : (R1.1.length : Int) < ((S + 4 : Nat) : Int)
  ·left
   rw [if_pos (by simpa using d2)]
   exact bad
  right
  have z1 : idx N1 ((0 : Nat) : Int) = some V1 := by rw [idx_nat, z0]
  have z00 : ((0 : Nat) : Int) = 0 := rfl
  rw [if_neg (by simpa using d2), ← z00, z1, Option.bind_some, slc_nat _ (Nat.zero_le S) (by omega), List.drop_zero, Option.bind_some, clone1 (by rw [List.length_take]; omega), Option.bind_some, app_of (by simp only [List.length_cons, List.length_nil]; omega) (by simp only [List.length_cons, List.length_nil]; omega), Option.bind_some,
   slc_nat _ (by omega) (Nat.le_refl _), List.take_length, Option.bind_some, next3 (by omega)]
  refine ⟨_, rfl, ⟨i + 1, rfl, by simp only [List.length_append, List.length_cons, List.length_nil]; omega, ⟨ho1.1.drop _, by simp only [List.length_drop]; omega⟩, by simp only [List.length_append, List.length_cons, List.length_nil, List.length_drop]; omega, fun x hx => ?_⟩, by simp only [List.length_drop]; omega⟩
  rcases List.mem_append.1 hx with q | q
  ·exact hit x q
  ·simp only [List.mem_cons, List.not_mem_nil, or_false] at q
   subst q
   exact ho1.1.take S)
 rw [ht]
 rcases hq with ⟨z, rfl, hz⟩ | ⟨l, rfl, hl1, hl2⟩
 ·exact ⟨z, false, rfl, by rw [hz]; simp, fun x hx => by rw [hz] at hx; cases hx⟩
 ·exact ⟨_, _, rfl, hl1, hl2⟩
end Go.Proofs.YtgdbmgnfaefhoaaGreat.Am
namespace Go.Proofs.YtgdbmgnfaefhoaaGreat.Am
open Go
set_option linter.unusedVariables false
set_option linter.unusedSimpArgs false
set_option maxRecDepth 100000
def l5 (s : Api_Stream) : List Int := [s.Blocks, s.Size, s.From + 1, s.To, (s.Items.length : Int)]
theorem bodyB_eq (s : Api_Stream) : bodyB s = magicB ++ (putS (l5 s) ++ (four (crcV (hdB s)) ++ (s.Items.map itS).flatten)) := by
 unfold bodyB sealL
 rw [List.append_assoc]
 conv => lhs; unfold hdB
 rw [List.append_assoc]
 rfl
theorem itS_eq (x : Api_Item) : itS x = nb x.Block.toNat ++ (x.Data ++ four (crcV (nb x.Block.toNat ++ x.Data))) := by
 unfold itS sealL
 rw [List.append_assoc]
theorem SRt.l5 {s : Api_Stream} (h : SRt s) : ∀ x ∈ l5 s, 0 ≤ x ∧ x ≤ 1099511627777 := by
 have h2 := h.1
 have h3 := h.len
 unfold hdOk at h2
 intro x hx
 simp only [Am.l5, List.mem_cons, List.not_mem_nil, or_false] at hx
 rcases hx with rfl | rfl | rfl | rfl | rfl <;> omega
theorem magic_cut (x : List Int) : (magicB ++ x).take 5 = magicB ∧ (magicB ++ x).drop 5 = x := ⟨by simp [magicB], by simp [magicB]⟩
theorem parsed_good {s : Api_Stream} (h : Good s) : stream_parsed (bodyB s) = some (s, true) := by
 have hb := bodyB_len h
 have hd := h.1.1
 have hln := h.1.len
 unfold hdOk at hd
 obtain ⟨S, hS⟩ := Int.eq_ofNat_of_zero_le (show 0 ≤ s.Size by omega)
 have hfl := flatS (fun x hx => h.itR hx)
 rw [bodyB_eq] at hb ⊢
 obtain ⟨t, ht⟩ : ∃ t, four (crcV (hdB s)) ++ (s.Items.map itS).flatten = t := ⟨_, rfl⟩
 have ht4 : t.drop 4 = (s.Items.map itS).flatten ∧ 4 ≤ t.length := by
  have := four_len (crcV (hdB s))
  rw [← ht]
  refine ⟨?_, by rw [List.length_append]; omega⟩
  rw [List.drop_append, this, List.drop_eq_nil_of_le (by omega)]
  simp
 rw [ht] at hb ⊢
 obtain ⟨c1, c2⟩ := magic_cut (putS (l5 s) ++ t)
 have hr : RdOk (putS (l5 s) ++ t, 0) := ⟨fun x hx => hb.2 x (List.mem_append_right _ hx), by have := hb.1; rw [List.length_append] at this; simp only; omega⟩
 unfold stream_parsed
 rw [show ([77, 69, 77, 79, 49] : List Int) = magicB from rfl, cut_eq (by omega), if_pos ⟨by simp [magicB], by rw [c1]⟩, c2, Option.bind_some]
 simp only [Bool.not_true, Bool.false_eq_true, if_false]
 have n5 := numbers_eq hr (n := 5) (by omega)
 have e1 : numsR (putS (l5 s) ++ t, 0) 5 = l5 s := numsR_put (l := l5 s) (t := t) h.1.l5
 have e2 : rdS (putS (l5 s) ++ t, 0) 5 = (t, 0) := rdS_put (l := l5 s) (t := t) h.1.l5 5 (Nat.le_refl _)
 rw [show ((5 : Nat) : Int) = 5 from rfl, e1, e2] at n5
 rw [n5, Option.bind_some]
 simp only
 have i0 : idx (l5 s) 0 = some s.Blocks := rfl
 have i1 : idx (l5 s) 1 = some s.Size := rfl
 have i2 : idx (l5 s) 2 = some (s.From + 1) := rfl
 have i3 : idx (l5 s) 3 = some s.To := rfl
 have i4 : idx (l5 s) 4 = some (s.Items.length : Int) := rfl
 have z4 : ((4 : Nat) : Int) = 4 := rfl
 rw [if_neg (by simp), if_neg (by simp; omega), i1, Option.bind_some, Option.bind_some, decide_eq_false (by omega), if_neg (by simp), i0, Option.bind_some, Option.bind_some, i2, Option.bind_some, i3, Option.bind_some, ← z4, slc_nat t ht4.2 (Nat.le_refl _), List.take_length, ht4.1, Option.bind_some, hS]
 have hflk : ∀ k, (((s.Items.drop k).map itS).flatten).length ≤ 16000 ∧ Byt ((s.Items.drop k).map itS).flatten := fun k => by
  have := flatS (l := s.Items.drop k) fun x hx => h.itR (List.mem_of_mem_drop hx)
  rw [List.length_drop] at this
  exact ⟨by omega, this.2⟩
 rw [loop_eqF (s := ((s.Items.map itS).flatten, (0 : Int), ([] : List Api_Item))) (fun q => ∃ k : Nat, k ≤ s.Items.length ∧ q = (((s.Items.drop k).map itS).flatten, (k : Int), s.Items.take k)) (fun q => s.Items.length - q.2.1.toNat) (fun _ => .go s.Items) ⟨0, by omega, rfl⟩ (by simp only; omega)]
 ·rw [kont_go', wrap64 (by omega) (by omega), ← hS]
  show some (Api_Stream.mk s.Blocks s.Size (s.From + 1 - 1) s.To s.Items, true) = some (s, true)
  rw [show s.From + 1 - 1 = s.From by omega]
 rintro _ ⟨k, hk, rfl⟩
 simp only [stream_parsed_L1]
 rw [i4, Option.bind_some]
 by_cases c : k < s.Items.length
 rotate_left
 ·left
  have : k = s.Items.length := by omega
  subst this
  rw [if_neg (by simp), Option.bind_some, if_neg (by simp), List.take_length]
  rfl
 right
 have hx := h.itR (List.getElem_mem c)
 have hx2 := h.1.item (List.getElem_mem c)
 have hdl : s.Items[k].Data.length = S := by omega
 obtain ⟨u, hu⟩ : ∃ u, s.Items[k].Data ++ four (crcV (nb s.Items[k].Block.toNat ++ s.Items[k].Data)) ++ ((s.Items.drop (k + 1)).map itS).flatten = u := ⟨_, rfl⟩
 have hrest : ((s.Items.drop k).map itS).flatten = putS [s.Items[k].Block] ++ u := by rw [flatS_drop c, itS_eq, putS_one, ← hu, List.append_assoc]
 have hfk := hflk k
 rw [hrest] at hfk ⊢
 have h4 := four_len (crcV (nb s.Items[k].Block.toNat ++ s.Items[k].Data))
 have hut : u.take S = s.Items[k].Data := by rw [← hu, List.append_assoc, ← hdl, List.take_left]
 have hud : u.drop (S + 4) = ((s.Items.drop (k + 1)).map itS).flatten := by
  rw [← hu, show S + 4 = (s.Items[k].Data ++ four (crcV (nb s.Items[k].Block.toNat ++ s.Items[k].Data))).length by rw [List.length_append]; omega, List.drop_left]
 have hul : S + 4 ≤ u.length := by rw [← hu, List.length_append, List.length_append]; omega
 have hr1 : RdOk (putS [s.Items[k].Block] ++ u, 0) := ⟨hfk.2, by simp only; omega⟩
 have hb1 : ∀ y ∈ [s.Items[k].Block], 0 ≤ y ∧ y ≤ 1099511627777 := fun y hy => by simp at hy; subst hy; have := hx.1; omega
 have n1 := numbers_eq hr1 (n := 1) (by omega)
 have f1 : numsR (putS [s.Items[k].Block] ++ u, 0) 1 = [s.Items[k].Block] := numsR_put (l := [s.Items[k].Block]) (t := u) hb1
 have f2 : rdS (putS [s.Items[k].Block] ++ u, 0) 1 = (u, 0) := rdS_put (l := [s.Items[k].Block]) (t := u) hb1 1 (Nat.le_refl _)
 rw [show ((1 : Nat) : Int) = 1 from rfl, f1, f2] at n1
 have hp : 0 < (putS [s.Items[k].Block] ++ u).length := by rw [List.length_append]; omega
 have j0 : idx [s.Items[k].Block] 0 = some s.Items[k].Block := rfl
 have z00 : ((0 : Nat) : Int) = 0 := rfl
 have ew : IntKind.wrap .i64 ((S : Int) + ((4 : Nat) : Int)) = ((S + 4 : Nat) : Int) := by rw [wrap64 (by omega) (by omega)]; omega
 rw [if_pos (by simpa using c), decide_eq_true (by omega), Option.bind_some, if_pos rfl, n1, Option.bind_some]
 simp only
 rw [← z4, ew, if_neg (by simp), decide_eq_false (by omega), Option.bind_some, if_neg (by simp), j0, Option.bind_some, ← z00, slc_nat u (Nat.zero_le _) (by omega), List.drop_zero, hut, Option.bind_some, clone1 (by omega), Option.bind_some,
  app_of (by rw [List.length_take]; simp only [List.length_cons, List.length_nil]; omega) (by rw [List.length_take]; simp only [List.length_cons, List.length_nil]; omega), Option.bind_some, slc_nat u hul (Nat.le_refl _), List.take_length, hud, Option.bind_some, next3 (by omega)]
 exact ⟨_, rfl, ⟨k + 1, c, by rw [List.take_succ_eq_append_getElem c]⟩, by simp only [Int.toNat_natCast]; omega, by first | rfl | trivial⟩
end Go.Proofs.YtgdbmgnfaefhoaaGreat.Am
namespace Go.Proofs.YtgdbmgnfaefhoaaGreat.Am
open Go
set_option linter.unusedVariables false
set_option linter.unusedSimpArgs false
set_option maxRecDepth 100000
theorem strOf_inj {a b : List Int} (ha : Byt a) (hb : Byt b) (h : strOf a = strOf b) : a = b := by
 have inv : ∀ {l : List Int}, Byt l → (strOf l).map ofU8 = l := fun {l} hl => by
  unfold strOf
  rw [List.map_map]
  conv => rhs; rw [← List.map_id l]
  apply List.map_congr_left
  intro x hx
  obtain ⟨h0, h1⟩ := hl x hx
  simp only [Function.comp, ofU8, u8, id]
  rw [UInt8.toNat_ofNat']
  omega
 rw [← inv ha, ← inv hb, h]
def skipR (r : Rd) (n : Nat) : List Int × Rd := if r.1.length < n then ([], ([], 21)) else (r.1.take n, (r.1.drop n, r.2))
theorem skip_eq {r : Rd} (h : RdOk r) (n : Nat) : mementoref21_skip (rdM r) n = some ((skipR r n).1, rdM (skipR r n).2) := by
 obtain ⟨b, e⟩ := r
 show mementoref21_skip ⟨b, e⟩ n = _
 unfold mementoref21_skip skipR
 simp only
 have z00 : ((0 : Nat) : Int) = 0 := rfl
 by_cases c : b.length < n
 ·rw [if_pos (by simpa using c), if_pos (show (b, e).1.length < n from c)]; rfl
 ·rw [if_neg (by simpa using c), if_neg (show ¬ (b, e).1.length < n from c), ← z00, slc_nat b (Nat.zero_le _) (by omega), Option.bind_some, slc_nat b (by omega) (Nat.le_refl _), List.take_length, List.drop_zero]
  rfl
theorem skip_ok {r : Rd} (h : RdOk r) (n : Nat) : RdOk (skipR r n).2 ∧ Byt (skipR r n).1 := by
 unfold skipR
 split
 ·exact ⟨⟨fun x hx => (by cases hx), by simp⟩, fun x hx => (by cases hx)⟩
 ·exact ⟨⟨h.1.drop n, by have := h.2; simp only [List.length_drop]; omega⟩, h.1.take n⟩
def z0S : Api_Stream := ⟨0, 0, 0, 0, []⟩
theorem ref_loop {S n : Nat} {r : Rd} (h : RdOk r) (hS : S ≤ 32) (hn : n ≤ 256) :
  ∃ r' l, loopN (mementoref21_Read_L1 S n) fuel ((0 : Int), rdM r, ([] : List Api_Item)) = some (rdM r', l) ∧ l.length ≤ 256 ∧ ∀ x ∈ l, Byt x.Data := by
 obtain ⟨t, ht, r', hr, h2, h3⟩ := loop_QF (b := mementoref21_Read_L1 S n) (s := ((0 : Int), rdM r, ([] : List Api_Item))) (fun s => ∃ (i : Nat) (r : Rd), s.1 = (i : Int) ∧ s.2.1 = rdM r ∧ RdOk r ∧ i ≤ n ∧ s.2.2.length = i ∧ ∀ x ∈ s.2.2, Byt x.Data) (fun s => n - s.1.toNat)
  (fun t => ∃ r', t.1 = rdM r' ∧ t.2.length ≤ 256 ∧ ∀ x ∈ t.2, Byt x.Data) ⟨0, r, rfl, rfl, h, by omega, rfl, fun x hx => by cases hx⟩ (by simp only; omega) (by
  rintro ⟨_, _, l⟩ ⟨i, r, rfl, rfl, hr, hi, hl, hx⟩
  simp only at hl hx ⊢
  simp only [mementoref21_Read_L1]
  rw [wrap64 (n := (n : Int)) (by omega) (by omega), wrap64 (n := (S : Int)) (by omega) (by omega)]
  by_cases c : i < n
  rotate_left
  ·left
   rw [if_neg (by simpa using c), Option.bind_some, if_neg (by simp)]
   exact ⟨_, rfl, r, rfl, by simp only; omega, hx⟩
  rw [if_pos (by simpa using c), Option.bind_some]
  by_cases e : r.2 = 0
  rotate_left
  ·left
   rw [if_neg (by simpa [rdM] using e)]
   exact ⟨_, rfl, r, rfl, by simp only; omega, hx⟩
  right
  have h1 := num_ok hr 256
  have hle := numR_le r (most := 256) (by omega)
  have h2 := skip_ok h1.1 S
  have h3 := skip_ok h2.1 4
  rw [if_pos (by simpa [rdM] using e), refNum_eq hr, Option.bind_some]
  simp only
  rw [skip_eq h1.1, Option.bind_some]
  simp only
  rw [wrap64 (n := (numR r 256).1) (by omega) (by omega), app_of (by simp; omega) (by simp; omega), Option.bind_some]
  have e4 := skip_eq h2.1 4
  rw [show ((4 : Nat) : Int) = 4 from rfl] at e4
  rw [e4, Option.bind_some]
  simp only
  rw [next3 (by omega)]
  refine ⟨_, rfl, ⟨i + 1, _, rfl, rfl, h3.1, c, by simp only [List.length_append, List.length_cons, List.length_nil]; omega, fun x hx2 => ?_⟩, by simp only [Int.toNat_natCast]; omega⟩
  rcases List.mem_append.1 hx2 with q | q
  ·exact hx x q
  ·simp only [List.mem_cons, List.not_mem_nil, or_false] at q
   subst q
   exact h2.2)
 refine ⟨r', t.2, ?_, h2, h3⟩
 rw [ht, ← hr]
theorem ref_total {b : List Int} (hb : Byt b) (hl : b.length ≤ 60000) (h4 : 4 ≤ b.length) (ho : (openL b).2 = true) :
  ∃ s e, mementoref21_Read b = some (s, e) ∧ (e = 0 ∧ Good s ∧ streamB s = b ∨ e = 20 ∧ s = z0S) := by
 unfold mementoref21_Read
 rw [if_neg (by simp; omega), (open_eq hb h4 (by omega)).2, Option.bind_some]
 obtain ⟨y, hy⟩ : ∃ y, (openL b).1 = y := ⟨_, rfl⟩
 have hyb : Byt y ∧ y.length ≤ 60000 := by
  rw [← hy]
  unfold openL
  split
  ·exact ⟨hb.take _, by rw [List.length_take]; omega⟩
  ·exact ⟨fun x hx => (by cases hx), by simp⟩
 rw [show openL b = (y, true) by rw [← hy, ← ho]]
 simp only [Bool.not_true, Bool.false_eq_true, if_false]
 have bad : ∃ s e, (some ((Api_Stream.mk 0 0 0 0 ([] : (List Api_Item))), (20 : Int))) = some (s, e) ∧ (e = 0 ∧ Good s ∧ streamB s = b ∨ e = 20 ∧ s = z0S) := ⟨_, _, rfl, .inr ⟨rfl, rfl⟩⟩
 by_cases c5 : y.length < 5
 ·rw [if_pos (by simp; omega), Option.bind_some, if_pos rfl]
  exact bad
 have s5 := slc_nat y (a := 0) (b := 5) (by omega) (by omega)
 have s5' := slc_nat y (a := 5) (b := y.length) (by omega) (Nat.le_refl _)
 rw [show ((0 : Nat) : Int) = 0 from rfl, show ((5 : Nat) : Int) = 5 from rfl, List.drop_zero] at s5
 rw [show ((5 : Nat) : Int) = 5 from rfl, List.take_length] at s5'
 rw [if_neg (by simp; omega), s5, Option.bind_some, Option.bind_some]
 by_cases cm : (strOf (y.take 5) != ([77, 69, 77, 79, 49] : List UInt8)) = true
 ·rw [if_pos cm]; exact bad
 rw [if_neg cm, s5', Option.bind_some]
 have r0 : RdOk (y.drop 5, 0) := ⟨hyb.1.drop 5, by simp only [List.length_drop]; omega⟩
 have e0 : Mementoref1_Reader.mk (y.drop 5) 0 = rdM (y.drop 5, 0) := rfl
 have n1 := num_ok r0 256
 have b1 := numR_le (y.drop 5, 0) (most := 256) (by omega)
 rw [e0, refNum_eq r0, Option.bind_some]
 simp only
 have n2 := num_ok n1.1 32
 have b2 := numR_le (numR (y.drop 5, 0) 256).2 (most := 32) (by omega)
 rw [refNum_eq n1.1, Option.bind_some]
 simp only
 generalize numR (y.drop 5, 0) 256 = q1 at *
 have n3 := num_ok n2.1 1099511627777
 have b3 := numR_le (numR q1.2 32).2 (most := 1099511627777) (by omega)
 rw [refNum_eq n2.1, Option.bind_some]
 simp only
 generalize numR q1.2 32 = q2 at *
 have n4 := num_ok n3.1 1099511627776
 have b4 := numR_le (numR q2.2 1099511627777).2 (most := 1099511627776) (by omega)
 rw [refNum_eq n3.1, Option.bind_some]
 simp only
 generalize numR q2.2 1099511627777 = q3 at *
 have n5 := num_ok n4.1 256
 have b5 := numR_le (numR q3.2 1099511627776).2 (most := 256) (by omega)
 rw [refNum_eq n4.1, Option.bind_some]
 simp only
 generalize numR q3.2 1099511627776 = q4 at *
 have k4 := skip_eq n5.1 4
 have k4o := skip_ok n5.1 4
 rw [show ((4 : Nat) : Int) = 4 from rfl] at k4
 generalize numR q4.2 256 = q5 at *
 rw [k4, Option.bind_some]
 simp only
 obtain ⟨S, hS⟩ := Int.eq_ofNat_of_zero_le n2.2.1
 obtain ⟨n, hn⟩ := Int.eq_ofNat_of_zero_le n5.2.1
 obtain ⟨r', l, hlo, hll, hlb⟩ := ref_loop (S := S) (n := n) k4o.1 (by omega) (by omega)
 rw [hS, hn, hlo, Option.bind_some]
 simp only
 obtain ⟨s, hs⟩ : ∃ s, Api_Stream.mk (IntKind.wrap .i64 q1.1) (IntKind.wrap .i64 (S : Int)) (IntKind.wrap .i64 ((IntKind.wrap .i64 q3.1) - 1)) (IntKind.wrap .i64 q4.1) l = s := ⟨_, rfl⟩
 have hsi : s.Items = l := by rw [← hs]
 rw [hs]
 have fin : ∀ (w : List Int) (e : Int), mementoref21_Put s = some (w, e) → (e = 0 → Good s ∧ w = streamB s) → ∃ s' e', ((mementoref21_Put s).bind fun (y191, y192) => ((if ((rdM r').E != 0) then (some true) else (if (y192 != 0) then (some true) else (some ((strOf y191) != (strOf b))))).bind fun t109 => (if t109 then (some ((Api_Stream.mk 0 0 0 0 ([] : (List Api_Item))), (20 : Int))) else (some (s, 0))))) = some (s', e') ∧ (e' = 0 ∧ Good s' ∧ streamB s' = b ∨ e' = 20 ∧ s' = z0S) := fun w e hp hg => by
  rw [hp, Option.bind_some]
  simp only
  split
  ·rw [Option.bind_some, if_pos rfl]; exact ⟨_, _, rfl, .inr ⟨rfl, rfl⟩⟩
  ·split
   ·rw [Option.bind_some, if_pos rfl]; exact ⟨_, _, rfl, .inr ⟨rfl, rfl⟩⟩
   ·rename_i he
    have he : e = 0 := by simpa using he
    obtain ⟨g1, g2⟩ := hg he
    rw [Option.bind_some]
    by_cases hw : strOf w = strOf b
    ·rw [if_neg (by simpa using hw)]
     have hw2 := strOf_inj (by rw [g2]; exact (streamB_len g1).2.1) hb hw
     exact ⟨_, _, rfl, .inl ⟨rfl, g1, by rw [← g2]; exact hw2⟩⟩
    ·rw [if_pos (by simpa using hw)]; exact ⟨_, _, rfl, .inr ⟨rfl, rfl⟩⟩
 by_cases hR : SRt s
 ·have hG : Good s := ⟨hR, fun x hx => hlb x (by rw [← hsi]; exact hx)⟩
  exact fin _ _ (put_good hG).2 fun _ => ⟨hG, rfl⟩
 ·exact fin _ _ (put_bad (by rw [hsi]; omega) hR).2 fun e => by cases e
theorem code_total {b : List Int} (hb : Byt b) (hl : b.length ≤ 60000) (h4 : 4 ≤ b.length) (ho : (openL b).2 = true) :
  ∃ s e, stream_Read b = some (s, e) ∧ (e = 0 ∧ Good s ∧ streamB s = b ∨ e = 20 ∧ s = z0S) := by
 unfold stream_Read
 rw [if_neg (by simp; omega), (open_eq hb h4 (by omega)).1, Option.bind_some]
 obtain ⟨y, hy⟩ : ∃ y, (openL b).1 = y := ⟨_, rfl⟩
 have hyb : Byt y ∧ y.length ≤ 60000 := by
  rw [← hy]
  unfold openL
  split
  ·exact ⟨hb.take _, by rw [List.length_take]; omega⟩
  ·exact ⟨fun x hx => (by cases hx), by simp⟩
 rw [show openL b = (y, true) by rw [← hy, ← ho]]
 simp only [Bool.not_true, Bool.false_eq_true, if_false]
 obtain ⟨s, q, hp, hi, hx⟩ := parsed_ok hyb.1 (by omega)
 rw [hp, Option.bind_some]
 simp only
 have fin : ∀ (w : List Int) (e : Int), stream_Put s = some (w, e) → (e = 0 → Good s ∧ w = streamB s) → ∃ s' e', ((stream_Put s).bind fun (y22, y23) => ((if (!q) then (some true) else (if (y23 != 0) then (some true) else ((bytes_Equal y22 b).bind fun y30 => (some (!y30))))).bind fun t42 => (if t42 then (some ((Api_Stream.mk 0 0 0 0 ([] : (List Api_Item))), (20 : Int))) else (some (s, 0))))) = some (s', e') ∧ (e' = 0 ∧ Good s' ∧ streamB s' = b ∨ e' = 20 ∧ s' = z0S) := fun w e hp hg => by
  rw [hp, Option.bind_some]
  simp only
  split
  ·rw [Option.bind_some, if_pos rfl]; exact ⟨_, _, rfl, .inr ⟨rfl, rfl⟩⟩
  ·split
   ·rw [Option.bind_some, if_pos rfl]; exact ⟨_, _, rfl, .inr ⟨rfl, rfl⟩⟩
   ·rename_i he
    have he : e = 0 := by simpa using he
    obtain ⟨g1, g2⟩ := hg he
    unfold bytes_Equal
    rw [Option.bind_some, Option.bind_some]
    by_cases hw : strOf w = strOf b
    ·rw [if_neg (by simpa using hw)]
     have hw2 := strOf_inj (by rw [g2]; exact (streamB_len g1).2.1) hb hw
     exact ⟨_, _, rfl, .inl ⟨rfl, g1, by rw [← g2]; exact hw2⟩⟩
    ·rw [if_pos (by simpa using hw)]; exact ⟨_, _, rfl, .inr ⟨rfl, rfl⟩⟩
 by_cases hR : SRt s
 ·have hG : Good s := ⟨hR, hx⟩
  exact fin _ _ (put_good hG).1 fun _ => ⟨hG, rfl⟩
 ·exact fin _ _ (put_bad hi hR).1 fun e => by cases e
end Go.Proofs.YtgdbmgnfaefhoaaGreat.Am
namespace Go.Proofs.YtgdbmgnfaefhoaaGreat.Am
open Go
set_option linter.unusedVariables false
set_option linter.unusedSimpArgs false
set_option maxRecDepth 100000
theorem numR_cons {x most : Int} {l t : List Int} (h0 : 0 ≤ x) (h1 : x ≤ most) (hm : most < 18446744073709551616) : numR (putS (x :: l) ++ t, 0) most = (x, (putS l ++ t, 0)) := by
 rw [show x :: l = [x] ++ l from rfl, putS_app, putS_one, List.append_assoc, numR_put _ h0 (by omega), if_neg (by omega)]
theorem skipR_app {a b : List Int} : skipR (a ++ b, 0) a.length = (a, (b, 0)) := by
 unfold skipR
 rw [if_neg (by simp)]
 simp
theorem open_seal (x : List Int) : openL (sealL x) = (x, true) := by
 have h4 := four_len (crcV x)
 have hl := sealL_len x
 unfold openL
 rw [hl, show x.length + 4 - 4 = x.length by omega]
 have e1 : (sealL x).take x.length = x := by unfold sealL; rw [List.take_left]
 have e2 : (sealL x).drop x.length = four (crcV x) := by unfold sealL; rw [List.drop_left]
 rw [e1, e2, if_pos (by simp)]
theorem ref_good {s : Api_Stream} (h : Good s) : mementoref21_Read (streamB s) = some (s, 0) := by
 have hb := bodyB_len h
 have hsb := streamB_len h
 have hd := h.1.1
 have hln := h.1.len
 unfold hdOk at hd
 obtain ⟨S, hS⟩ := Int.eq_ofNat_of_zero_le (show 0 ≤ s.Size by omega)
 unfold mementoref21_Read
 rw [if_neg (by simp; omega), (open_eq hsb.2.1 (by omega) (by omega)).2, Option.bind_some, show openL (streamB s) = (bodyB s, true) from open_seal _]
 simp only [Bool.not_true, Bool.false_eq_true, if_false]
 rw [bodyB_eq] at hb ⊢
 obtain ⟨t, ht⟩ : ∃ t, four (crcV (hdB s)) ++ (s.Items.map itS).flatten = t := ⟨_, rfl⟩
 rw [ht] at hb ⊢
 obtain ⟨c1, c2⟩ := magic_cut (putS (l5 s) ++ t)
 have hml : 5 ≤ (magicB ++ (putS (l5 s) ++ t)).length := by simp [magicB]
 have s5 := slc_nat (magicB ++ (putS (l5 s) ++ t)) (a := 0) (b := 5) (by omega) hml
 have s5' := slc_nat (magicB ++ (putS (l5 s) ++ t)) (a := 5) (b := (magicB ++ (putS (l5 s) ++ t)).length) hml (Nat.le_refl _)
 rw [show ((0 : Nat) : Int) = 0 from rfl, show ((5 : Nat) : Int) = 5 from rfl, List.drop_zero, c1] at s5
 rw [show ((5 : Nat) : Int) = 5 from rfl, List.take_length, c2] at s5'
 have em : (strOf magicB != ([77, 69, 77, 79, 49] : List UInt8)) = false := by decide
 have r0 : RdOk (putS (l5 s) ++ t, 0) := ⟨fun x hx => hb.2 x (List.mem_append_right _ hx), by have := hb.1; rw [List.length_append] at this; simp only; omega⟩
 rw [if_neg (by simp [magicB]; omega), s5, Option.bind_some, Option.bind_some, em, if_neg (by simp), s5', Option.bind_some]
 have ex : ∀ (x most : Int) (l : List Int), RdOk (putS (x :: l) ++ t, 0) → 0 ≤ x → x ≤ most → most < 18446744073709551616 → mementoref1_Reader_Num (rdM (putS (x :: l) ++ t, 0)) most = some (x, rdM (putS l ++ t, 0)) := fun x most l hr h0 h1 hm => by
  rw [refNum_eq hr, numR_cons h0 h1 hm]
 have tl : ∀ (x : Int) (l : List Int), RdOk (putS (x :: l) ++ t, 0) → RdOk (putS l ++ t, 0) := fun x l hr => by
  rw [show x :: l = [x] ++ l from rfl, putS_app, List.append_assoc] at hr
  exact hr.tl
 have r1 := tl _ _ r0
 have r2 := tl _ _ r1
 have r3 := tl _ _ r2
 have r4 := tl _ _ r3
 have r5 := tl _ _ r4
 rw [show Mementoref1_Reader.mk (putS (l5 s) ++ t) 0 = rdM (putS (l5 s) ++ t, 0) from rfl, show l5 s = [s.Blocks, s.Size, s.From + 1, s.To, (s.Items.length : Int)] from rfl, ex _ 256 _ r0 (by omega) (by omega) (by omega), Option.bind_some]
 simp only
 rw [ex _ 32 _ r1 (by omega) (by omega) (by omega), Option.bind_some]
 simp only
 rw [ex _ 1099511627777 _ r2 (by omega) (by omega) (by omega), Option.bind_some]
 simp only
 rw [ex _ 1099511627776 _ r3 (by omega) (by omega) (by omega), Option.bind_some]
 simp only
 rw [ex _ 256 _ r4 (by omega) (by omega) (by omega), Option.bind_some]
 simp only
 have k4 := skip_eq r5 4
 have e4 : skipR (putS [] ++ t, 0) 4 = (four (crcV (hdB s)), ((s.Items.map itS).flatten, 0)) := by
  rw [show putS [] ++ t = four (crcV (hdB s)) ++ (s.Items.map itS).flatten by rw [ht]; rfl]
  have := skipR_app (a := four (crcV (hdB s))) (b := (s.Items.map itS).flatten)
  rw [four_len] at this
  exact this
 rw [e4, show ((4 : Nat) : Int) = 4 from rfl] at k4
 rw [k4, Option.bind_some]
 simp only
 have hflk : ∀ k, RdOk (((s.Items.drop k).map itS).flatten, 0) := fun k => by
  have := flatS (l := s.Items.drop k) fun x hx => h.itR (List.mem_of_mem_drop hx)
  rw [List.length_drop] at this
  exact ⟨this.2, by simp only; omega⟩
 rw [hS]
 rw [loop_eqF (s := ((0 : Int), rdM ((s.Items.map itS).flatten, 0), ([] : List Api_Item))) (fun q => ∃ k : Nat, k ≤ s.Items.length ∧ q = ((k : Int), rdM (((s.Items.drop k).map itS).flatten, 0), s.Items.take k)) (fun q => s.Items.length - q.1.toNat) (fun _ => (rdM ([], 0), s.Items)) ⟨0, by omega, rfl⟩ (by simp only; omega)]
 ·rw [Option.bind_some]
  simp only
  rw [wrap64 (n := s.Blocks) (by omega) (by omega), wrap64 (n := (S : Int)) (by omega) (by omega), wrap64 (n := s.From + 1) (by omega) (by omega), wrap64 (n := s.From + 1 - 1) (by omega) (by omega), wrap64 (n := s.To) (by omega) (by omega), ← hS, show s.From + 1 - 1 = s.From by omega]
  show ((mementoref21_Put s).bind fun (y191, y192) => _) = _
  rw [(put_good h).2, Option.bind_some]
  simp [rdM]
 rintro _ ⟨k, hk, rfl⟩
 simp only [mementoref21_Read_L1]
 rw [wrap64 (n := (s.Items.length : Int)) (by omega) (by omega), wrap64 (n := (S : Int)) (by omega) (by omega)]
 by_cases c : k < s.Items.length
 rotate_left
 ·left
  have : k = s.Items.length := by omega
  subst this
  rw [if_neg (by simp), Option.bind_some, if_neg (by simp), List.take_length, List.drop_length]
  rfl
 right
 have hx := h.itR (List.getElem_mem c)
 have hx2 := h.1.item (List.getElem_mem c)
 have hdl : s.Items[k].Data.length = S := by omega
 have h4 := four_len (crcV (nb s.Items[k].Block.toNat ++ s.Items[k].Data))
 obtain ⟨u, hu⟩ : ∃ u, four (crcV (nb s.Items[k].Block.toNat ++ s.Items[k].Data)) ++ ((s.Items.drop (k + 1)).map itS).flatten = u := ⟨_, rfl⟩
 have hrest : ((s.Items.drop k).map itS).flatten = nb s.Items[k].Block.toNat ++ (s.Items[k].Data ++ u) := by rw [flatS_drop c, itS_eq, ← hu]; simp only [List.append_assoc]
 have hfk := hflk k
 rw [hrest] at hfk ⊢
 have sk1 := skip_eq hfk.tl s.Items[k].Data.length
 rw [skipR_app, hdl] at sk1
 have sk2 := skip_eq hfk.tl.tl 4
 have e2 : skipR (u, 0) 4 = (four (crcV (nb s.Items[k].Block.toNat ++ s.Items[k].Data)), (((s.Items.drop (k + 1)).map itS).flatten, 0)) := by
  rw [← hu]
  have := skipR_app (a := four (crcV (nb s.Items[k].Block.toNat ++ s.Items[k].Data))) (b := ((s.Items.drop (k + 1)).map itS).flatten)
  rw [h4] at this
  exact this
 rw [e2, show ((4 : Nat) : Int) = 4 from rfl] at sk2
 rw [if_pos (by simpa using c), Option.bind_some, if_pos (by simp [rdM]), refNum_eq hfk, numR_put _ hx.1.1 (by omega), if_neg (by omega), Option.bind_some]
 simp only
 rw [sk1, Option.bind_some]
 simp only
 rw [wrap64 (by omega) (by omega), app_of (by rw [List.length_take]; simp only [List.length_cons, List.length_nil]; omega) (by rw [List.length_take]; simp only [List.length_cons, List.length_nil]; omega), Option.bind_some, sk2, Option.bind_some]
 simp only
 rw [next3 (by omega)]
 exact ⟨_, rfl, ⟨k + 1, c, by rw [List.take_succ_eq_append_getElem c]⟩, by simp only [Int.toNat_natCast]; omega, by first | rfl | trivial⟩
theorem code_good {s : Api_Stream} (h : Good s) : stream_Read (streamB s) = some (s, 0) := by
 have hsb := streamB_len h
 unfold stream_Read
 rw [if_neg (by simp; omega), (open_eq hsb.2.1 (by omega) (by omega)).1, Option.bind_some, show openL (streamB s) = (bodyB s, true) from open_seal _]
 simp only [Bool.not_true, Bool.false_eq_true, if_false]
 rw [parsed_good h, Option.bind_some]
 simp only
 rw [(put_good h).1, Option.bind_some]
 simp only
 unfold bytes_Equal
 simp
theorem reads_same {b : List Int} (hb : Byt b) (hl : b.length ≤ 60000) : ∃ s e, stream_Read b = some (s, e) ∧ mementoref21_Read b = some (s, e) ∧ s.Items.length ≤ 100000 ∧ (e = 0 ∧ Good s ∧ streamB s = b ∨ e = 20 ∧ s = z0S ∧ (openL b).2 = true ∧ ¬ (∃ s', Good s' ∧ streamB s' = b) ∨ e = 24 ∧ s = z0S ∨ e = 21 ∧ s = z0S) := by
 by_cases h4 : b.length < 4
 ·refine ⟨z0S, 21, ?_, ?_, by simp [z0S], .inr (.inr (.inr ⟨rfl, rfl⟩))⟩
  ·unfold stream_Read; rw [if_pos (by simp; omega)]; rfl
  ·unfold mementoref21_Read; rw [if_pos (by simp; omega)]; rfl
 by_cases ho : (openL b).2 = true
 rotate_left
 ·have e : openL b = ([], false) := by
   unfold openL at ho ⊢
   split
   ·rename_i q; rw [if_pos q] at ho; exact absurd rfl ho
   ·rfl
  refine ⟨z0S, 24, ?_, ?_, by simp [z0S], .inr (.inr (.inl ⟨rfl, rfl⟩))⟩
  ·unfold stream_Read; rw [if_neg (by simp; omega), (open_eq hb (by omega) (by omega)).1, e]; rfl
  ·unfold mementoref21_Read; rw [if_neg (by simp; omega), (open_eq hb (by omega) (by omega)).2, e]; rfl
 by_cases hg : ∃ s', Good s' ∧ streamB s' = b
 ·obtain ⟨s, hs, rfl⟩ := hg
  have := hs.1.len
  have := hs.1.1.1
  exact ⟨s, 0, code_good hs, ref_good hs, by omega, .inl ⟨rfl, hs, rfl⟩⟩
 ·obtain ⟨s1, e1, h1, q1⟩ := code_total hb hl (by omega) ho
  obtain ⟨s2, e2, h2, q2⟩ := ref_total hb hl (by omega) ho
  rcases q1 with ⟨_, g1, g2⟩ | ⟨rfl, rfl⟩
  ·exact absurd ⟨s1, g1, g2⟩ hg
  rcases q2 with ⟨_, g1, g2⟩ | ⟨rfl, rfl⟩
  ·exact absurd ⟨s2, g1, g2⟩ hg
  exact ⟨z0S, 20, h1, h2, by simp [z0S], .inr (.inl ⟨rfl, rfl, ho, hg⟩)⟩
end Go.Proofs.YtgdbmgnfaefhoaaGreat.Am
namespace Go.Proofs.YtgdbmgnfaefhoaaGreat.Am
open Go
set_option linter.unusedVariables false
set_option linter.unusedSimpArgs false
set_option maxRecDepth 100000
def wr (v : Api_Volume) (f t k : Nat) : Bool := ((v.Writes.take t).drop f).any fun w => w.Items.any fun q => q.Block == (k : Int)
def ch (v : Api_Volume) (f : Int) (t k : Nat) : Bool := decide (f < 0) || wr v f.toNat t k
def itm (v : Api_Volume) (f : Int) (t : Nat) : List Api_Item := ((List.range v.Blocks.toNat).filter (ch v f t)).map fun k : Nat => Api_Item.mk (k : Int) ((stateL v t).getD k [])
def mkS (v : Api_Volume) (f : Int) (t : Nat) : Api_Stream := ⟨v.Blocks, v.Size, f, t, itm v f t⟩
theorem take_drop_succ {α : Type} {l : List α} {i k : Nat} (hi : i < l.length) (hk : k ≤ i) : (l.take (i + 1)).drop k = (l.take i).drop k ++ [l[i]] := by
 rw [List.take_succ_eq_append_getElem hi, List.drop_append_of_le_length (by rw [List.length_take]; omega)]
theorem maxI0 (f : Int) : maxI f 0 = (f.toNat : Int) := by unfold maxI; split <;> omega
theorem str_L4 {w : Api_Write} (hl : w.Items.length ≤ 1000) (k : Nat) (b : Bool) : loopN (mementolaw22_streams_L4 (k : Int) w) fuel (b, 0) = some (b || w.Items.any fun q => q.Block == (k : Int)) := by
 refine loop_eqF (fun q : Bool × Int => ∃ i : Nat, i ≤ w.Items.length ∧ q = (b || (w.Items.take i).any (fun q => q.Block == (k : Int)), (i : Int))) (fun q => w.Items.length - q.2.toNat) (fun _ => b || w.Items.any fun q => q.Block == (k : Int)) ⟨0, by omega, by simp⟩ (by simp only; omega) ?_
 rintro _ ⟨i, hi, rfl⟩
 simp only [mementolaw22_streams_L4]
 by_cases q : i < w.Items.length
 ·right
  rw [if_pos (by simpa using q)]
  have e : (if (b || (w.Items.take i).any fun q => q.Block == (k : Int)) = true then some true else (idx w.Items (i : Int)).bind fun x234 => some (x234.Block == (k : Int))) = some (b || (w.Items.take (i + 1)).any fun q => q.Block == (k : Int)) := by
   rw [List.take_succ_eq_append_getElem q, List.any_append, List.any_cons, List.any_nil, Bool.or_false, ← Bool.or_assoc]
   cases h : (b || (w.Items.take i).any fun q => q.Block == (k : Int))
   ·rw [if_neg (by simp), idx_at q, Option.bind_some, Bool.false_or]
   ·rw [if_pos rfl, Bool.true_or]
  rw [e, Option.bind_some, next3 (by omega)]
  exact ⟨_, rfl, ⟨i + 1, q, rfl⟩, by simp only [Int.toNat_natCast]; omega, trivial⟩
 ·left
  have : i = w.Items.length := by omega
  subst this
  rw [if_neg (by simp), List.take_length]; rfl
section
variable {m : Nat} {v : Api_Volume}
theorem str_L3 (hv : VInv m v) (hm : m ≤ 1000) {f : Int} {t x k : Nat} (hx : f.toNat + x = t) (ht : t ≤ v.Writes.length) : loopN (mementolaw22_streams_L3 v f (x : Int) (k : Int)) fuel (decide (f < 0), maxI f 0) = some (ch v f t k) := by
 have hw := hv.writes
 unfold ch wr
 rw [maxI0]
 refine loop_eqF (s := (decide (f < 0), (f.toNat : Int))) (fun q : Bool × Int => ∃ i : Nat, f.toNat ≤ i ∧ i ≤ t ∧ q = (decide (f < 0) || ((v.Writes.take i).drop f.toNat).any (fun w => w.Items.any fun q => q.Block == (k : Int)), (i : Int))) (fun q => t - q.2.toNat) (fun _ => decide (f < 0) || ((v.Writes.take t).drop f.toNat).any fun w => w.Items.any fun q => q.Block == (k : Int)) ⟨f.toNat, by omega, by omega, by rw [List.drop_eq_nil_of_le (by rw [List.length_take]; omega)]; simp⟩ (by simp only; omega) ?_
 rintro _ ⟨i, h1, hi, rfl⟩
 simp only [mementolaw22_streams_L3]
 rw [maxI0, wrap64 (by omega) (by omega)]
 by_cases q : i < t
 ·right
  have hl : i < v.Writes.length := by omega
  rw [if_pos (by simp; omega), idx_at hl, Option.bind_some, str_L4 (by have := (hv.items _ (List.getElem_mem hl)).2.1; omega), Option.bind_some, next3 (by omega)]
  refine ⟨_, rfl, ⟨i + 1, by omega, q, ?_⟩, by simp only [Int.toNat_natCast]; omega, trivial⟩
  rw [take_drop_succ hl h1, List.any_append, List.any_cons, List.any_nil, Bool.or_false, Bool.or_assoc]
 ·left
  have : i = t := by omega
  subst this
  rw [if_neg (by simp; omega)]; rfl
theorem str_L2 (hv : VInv m v) (hm : m ≤ 1000) {v1 : Api_Volume} (e1 : v1.Blocks = v.Blocks) (e2 : v1.Writes = v.Writes) {f : Int} {t x : Nat} (hx : f.toNat + x = t) (ht : t ≤ v.Writes.length) : loopN (mementolaw22_streams_L2 v1 f (x : Int) (stateL v t)) fuel (0, []) = some (itm v f t) := by
 have hB := hv.blocks
 have hsl := stateL_len v t
 obtain ⟨B, eB⟩ := Int.eq_ofNat_of_zero_le (show 0 ≤ v.Blocks by omega)
 have e3 : mementolaw22_streams_L3 v1 = mementolaw22_streams_L3 v := by
  funext a b c d
  obtain ⟨d1, d2⟩ := d
  simp only [mementolaw22_streams_L3, e2]
 refine loop_eqF (fun q : Int × List Api_Item => ∃ i : Nat, i ≤ B ∧ q = ((i : Int), ((List.range i).filter (ch v f t)).map fun k : Nat => Api_Item.mk (k : Int) ((stateL v t).getD k []))) (fun q => B - q.1.toNat) (fun _ => itm v f t) ⟨0, by omega, rfl⟩ (by simp only; omega) ?_
 rintro _ ⟨i, hi, rfl⟩
 simp only [mementolaw22_streams_L2]
 by_cases q : i < B
 ·right
  have hil : i < (stateL v t).length := by omega
  have hfl : ((List.range i).filter (ch v f t)).length ≤ i := by have := List.length_filter_le (ch v f t) (List.range i); simpa using this
  rw [if_pos (by rw [e1, eB]; simpa using q), e3, str_L3 hv hm hx ht, Option.bind_some]
  have e : (if ch v f t i = true then (idx (stateL v t) (i : Int)).bind fun x236 => (app 32 (((List.range i).filter (ch v f t)).map fun k : Nat => Api_Item.mk (k : Int) ((stateL v t).getD k [])) ([(Api_Item.mk (i : Int) x236)] : (List Api_Item))).bind fun m => some m else some (((List.range i).filter (ch v f t)).map fun k : Nat => Api_Item.mk (k : Int) ((stateL v t).getD k []))) =
    some (((List.range (i + 1)).filter (ch v f t)).map fun k : Nat => Api_Item.mk (k : Int) ((stateL v t).getD k [])) := by
   rw [List.range_succ, List.filter_append, List.map_append]
   cases hc : ch v f t i
   ·rw [if_neg (by simp)]; simp [hc]
   ·rw [if_pos rfl, idx_at hil, Option.bind_some, app_of (by simp only [List.length_map, List.length_singleton]; omega) (by simp only [List.length_map, List.length_singleton]; omega), Option.bind_some]
    simp [hc, List.getD_eq_getElem?_getD, List.getElem?_eq_getElem hil]
  rw [e, Option.bind_some, next3 (by omega)]
  exact ⟨_, rfl, ⟨i + 1, q, rfl⟩, by simp only [Int.toNat_natCast]; omega, trivial⟩
 ·left
  have : i = B := by omega
  subst this
  rw [if_neg (by rw [e1, eB]; simp)]
  unfold itm
  rw [eB, Int.toNat_natCast]; rfl
end
def seg (v : Api_Volume) (f : Int) : List Nat → List Api_Stream
 | [] => []
 | t :: ts => mkS v f t :: seg v t ts
def lastT (f : Int) : List Nat → Int
 | [] => f
 | t :: ts => lastT t ts
def Mon (W : Nat) (f : Int) : List Nat → Prop
 | [] => True
 | t :: ts => f ≤ t ∧ t ≤ W ∧ Mon W t ts
theorem seg_len (v : Api_Volume) : ∀ (ts : List Nat) (f : Int), (seg v f ts).length = ts.length
 | [], _ => rfl
 | t :: ts, f => by simp [seg, seg_len v ts]
theorem seg_snoc (v : Api_Volume) (t : Nat) : ∀ (ts : List Nat) (f : Int), seg v f (ts ++ [t]) = seg v f ts ++ [mkS v (lastT f ts) t]
 | [], _ => rfl
 | u :: ts, f => by simp [seg, lastT, seg_snoc v t ts]
theorem mon_snoc {W t : Nat} : ∀ {ts : List Nat} {f : Int}, Mon W f ts → lastT f ts ≤ t → t ≤ W → Mon W f (ts ++ [t])
 | [], _, _, h1, h2 => ⟨h1, h2, trivial⟩
 | u :: ts, f, h, h1, h2 => ⟨h.1, h.2.1, mon_snoc h.2.2 h1 h2⟩
theorem last_snoc (t : Nat) : ∀ (ts : List Nat) (f : Int), lastT f (ts ++ [t]) = t
 | [], _ => rfl
 | u :: ts, f => last_snoc t ts u
theorem last_rng {W : Nat} : ∀ {ts : List Nat} {f : Int}, Mon W f ts → f ≤ W → f ≤ lastT f ts ∧ lastT f ts ≤ W
 | [], f, _, hf => ⟨Int.le_refl _, hf⟩
 | u :: ts, f, h, hf => by
  have := last_rng h.2.2 (by have := h.2.1; omega)
  have := h.1
  exact ⟨by show f ≤ lastT u ts; omega, this |> fun _ => by show lastT u ts ≤ W; omega⟩
theorem streams_ok {a0 a1 : List Int} (hl : a0.length ≤ 80) (h0 : Byt a0) (hl1 : a1.length ≤ 100) (h1 : Byt a1) : ∃ v ts, mementolaw22_streams a0 a1 = some (seg v (-1) ts, v) ∧ VInv 30 v ∧ v.Floor = 0 ∧ ts.length = a1.length ∧ Mon v.Writes.length (-1) ts := by
 obtain ⟨v, hv, hi⟩ := volume_ok (l := a0) (by omega) h0
 have hi0 : VInv 30 ⟨v.Id, v.Blocks, v.Size, v.Per, v.Place, v.Total, v.Next, v.Hidden, 0, v.Pins, v.Writes⟩ := ⟨hi.id, hi.blocks, hi.size, hi.next, hi.pins, hi.writes, hi.items⟩
 have hw := hi.writes
 unfold mementolaw22_streams
 rw [hv, Option.bind_some]
 obtain ⟨v0, hv0⟩ : ∃ v0, Api_Volume.mk v.Id v.Blocks v.Size v.Per v.Place v.Total v.Next v.Hidden 0 v.Pins v.Writes = v0 := ⟨_, rfl⟩
 rw [hv0] at hi0 ⊢
 have hw0 : v0.Writes = v.Writes := by rw [← hv0]
 have hf0 : v0.Floor = 0 := by rw [← hv0]
 have hb0 : v0.Blocks = v.Blocks := by rw [← hv0]
 have hs0 : v0.Size = v.Size := by rw [← hv0]
 obtain ⟨out, ho, ts, e1, e2, e3⟩ := loop_QF (b := mementolaw22_streams_L1 a1 v) (s := (([] : List Api_Stream), (-1 : Int), (0 : Int))) (fun q => ∃ ts : List Nat, ts.length ≤ a1.length ∧ q = (seg v0 (-1) ts, lastT (-1) ts, (ts.length : Int)) ∧ Mon v0.Writes.length (-1) ts) (fun q => a1.length - q.2.2.toNat)
  (fun out => ∃ ts : List Nat, out = seg v0 (-1) ts ∧ ts.length = a1.length ∧ Mon v0.Writes.length (-1) ts) ⟨[], by simp, rfl, trivial⟩ (by simp only; omega) (by
  rintro _ ⟨ts, q1, rfl, q3⟩
  simp only [mementolaw22_streams_L1]
  by_cases q : ts.length < a1.length
  ·right
   have hx := h1 _ (List.getElem_mem q)
   obtain ⟨l1, l2⟩ := last_rng q3 (by omega)
   have hwl : v0.Writes.length ≤ 30 := hi0.writes
   obtain ⟨L, hL⟩ : ∃ L, lastT (-1) ts = L := ⟨_, rfl⟩
   rw [hL] at l1 l2 ⊢
   rw [if_pos (by simpa using q), idx_at q, Option.bind_some, hv0]
   unfold mementoref16_Len
   rw [Option.bind_some, maxI0, wrap64 (n := (v0.Writes.length : Int) - _) (by omega) (by omega), wrap64 (n := (v0.Writes.length : Int) - _ + 1) (by omega) (by omega)]
   obtain ⟨x, x1, x2⟩ : ∃ k : Nat, (k : Int) < (v0.Writes.length : Int) - (L.toNat : Int) + 1 ∧ remI (IntKind.wrap .i64 a1[ts.length]) ((v0.Writes.length : Int) - (L.toNat : Int) + 1) = some (k : Int) := by
    rw [wrap64 (n := a1[ts.length]) (by omega) (by omega)]
    unfold remI
    have q1 := Int.tmod_lt_of_pos a1[ts.length] (show (0 : Int) < (v0.Writes.length : Int) - (L.toNat : Int) + 1 by omega)
    have q2 := Int.tmod_nonneg ((v0.Writes.length : Int) - (L.toNat : Int) + 1) hx.1
    rw [if_neg (by omega)]
    exact ⟨(Int.tmod a1[ts.length] ((v0.Writes.length : Int) - (L.toNat : Int) + 1)).toNat, by omega, by rw [Int.toNat_of_nonneg q2]⟩
   rw [x2, Option.bind_some, wrap64 (n := (L.toNat : Int) + (x : Int)) (by omega) (by omega), show (L.toNat : Int) + (x : Int) = ((L.toNat + x : Nat) : Int) by omega, state_eq hi0 (by omega) hf0 (t := L.toNat + x) (by omega), Option.bind_some]
   simp only
   rw [str_L2 hi0 (by omega) (v1 := v) hb0.symm hw0.symm (f := L) (x := x) rfl (by omega), Option.bind_some, app_of (by simp [seg_len]; omega) (by simp [seg_len]; omega), Option.bind_some, next3 (by omega)]
   refine ⟨_, rfl, ⟨ts ++ [L.toNat + x], by simp; omega, ?_, mon_snoc q3 (by rw [hL]; omega) (by omega)⟩, by simp only [Int.toNat_natCast]; omega⟩
   rw [seg_snoc, last_snoc, hL, List.length_append, List.length_singleton, ← hb0, ← hs0]
   rfl
  ·left
   rw [if_neg (by simpa using q)]
   exact ⟨_, rfl, ts, rfl, by omega, q3⟩)
 rw [ho, Option.bind_some, e1]
 exact ⟨v0, ts, rfl, hi0, hf0, e2, e3⟩
end Go.Proofs.YtgdbmgnfaefhoaaGreat.Am
namespace Go.Proofs.YtgdbmgnfaefhoaaGreat.Am
open Go
set_option linter.unusedVariables false
set_option linter.unusedSimpArgs false
set_option maxRecDepth 100000
def gD (l : List Api_Item) (i : Nat) : Api_Item := l.getD i ⟨0, []⟩
def bk (l : List Api_Item) (i : Nat) : Int := (gD l i).Block
def keep (l : List Api_Item) (i : Nat) : Bool := i == 0 || bk l i != bk l (i - 1)
def SUp (l : List Api_Item) : Prop := l.Pairwise fun x y => x.Block < y.Block
end Go.Proofs.YtgdbmgnfaefhoaaGreat.Am
namespace Go.Proofs.YtgdbmgnfaefhoaaGreat.Am
open Go
set_option linter.unusedVariables false
set_option linter.unusedSimpArgs false
set_option maxRecDepth 100000
section
variable {m : Nat} {v : Api_Volume}
theorem itm_sup (f : Int) (t : Nat) : SUp (itm v f t) := by
 unfold SUp itm
 rw [List.pairwise_map]
 exact (List.pairwise_lt_range.filter _).imp fun h => by simp only; omega
theorem itm_mem {f : Int} {t : Nat} {x : Api_Item} (hx : x ∈ itm v f t) : ∃ k, k < v.Blocks.toNat ∧ x = Api_Item.mk (k : Int) ((stateL v t).getD k []) := by
 unfold itm at hx
 obtain ⟨k, hk, rfl⟩ := List.mem_map.1 hx
 exact ⟨k, List.mem_range.1 (List.mem_filter.1 hk).1, rfl⟩
theorem itm_full {f : Int} (hf : f < 0) (t : Nat) : itm v f t = (List.range v.Blocks.toNat).map fun k : Nat => Api_Item.mk (k : Int) ((stateL v t).getD k []) := by
 unfold itm
 congr 1
 rw [List.filter_eq_self]
 intro k _
 unfold ch
 rw [decide_eq_true hf]; rfl
theorem itm_data (hv : VInv m v) {f : Int} {t : Nat} (ht : t ≤ v.Writes.length) {x : Api_Item} (hx : x ∈ itm v f t) : (x.Data.length : Int) = v.Size ∧ Byt x.Data := by
 obtain ⟨k, hk, rfl⟩ := itm_mem hx
 have hl : k < (stateL v t).length := by rw [stateL_len]; exact hk
 have := stateL_row hv t ht _ (List.getElem_mem hl)
 simp only [List.getD_eq_getElem?_getD, List.getElem?_eq_getElem hl, Option.getD_some]
 exact this
structure Ft (v : Api_Volume) (f : Int) (t : Nat) : Prop where
 lo : -1 ≤ f
 le : f ≤ t
 hi : t ≤ v.Writes.length
theorem mkS_right (hv : VInv m v) (hm : m ≤ 1000) {f : Int} {t : Nat} (h : Ft v f t) : SRt (mkS v f t) := by
 obtain ⟨h1, h2, h3⟩ := h
 have hb := hv.blocks
 have hs := hv.size
 have hw := hv.writes
 refine ⟨⟨⟨by show 1 ≤ v.Blocks; omega, by show v.Blocks ≤ 256; omega⟩, ⟨by show 1 ≤ v.Size; omega, by show v.Size ≤ 32; omega⟩, h1, h2, by show 0 ≤ (t : Int); omega, by show (t : Int) ≤ 1099511627776; omega, fun hf => ?_⟩, fun k hk => ?_⟩
 ·show ((itm v f t).length : Int) = v.Blocks
  rw [itm_full (show f < 0 from hf), List.length_map, List.length_range]; omega
 ·have hx := List.getElem_mem hk
  obtain ⟨j, hj, e⟩ := itm_mem hx
  obtain ⟨d1, _⟩ := itm_data hv h3 hx
  refine ⟨by rw [e]; simp only; omega, by rw [e]; show (j : Int) < v.Blocks; omega, fun h0 => ?_, d1⟩
  exact (List.pairwise_iff_getElem.1 (itm_sup (v := v) f t)) (k - 1) k (by have : k < (itm v f t).length := hk; omega) hk (by omega)
end
end Go.Proofs.YtgdbmgnfaefhoaaGreat.Am
namespace Go.Proofs.YtgdbmgnfaefhoaaGreat.Am
open Go
set_option linter.unusedVariables false
set_option linter.unusedSimpArgs false
set_option maxRecDepth 100000
theorem byt8 {l : List Int} (h : ∀ x ∈ l, Ik .u8 x) : Byt l := fun x hx => (h x hx).u8
theorem loop_all {T : Type} {b : Int → Option (Ctl T Int)} {t : T} {n m : Nat} (hm : m ≤ n) (hn : n ≤ 1000000) (step : ∀ k : Nat, m ≤ k → k < n → b (k : Int) = some (.go ((k + 1 : Nat) : Int))) (stop : b (n : Int) = some (.ret t)) : loopN b fuel (m : Int) = some t := by
 refine loop_eqF (fun s => ∃ k : Nat, m ≤ k ∧ k ≤ n ∧ s = (k : Int)) (fun s => n - s.toNat) (fun _ => t) ⟨m, by omega, hm, rfl⟩ (by omega) ?_
 rintro _ ⟨k, h1, h2, rfl⟩
 by_cases q : k < n
 ·right
  exact ⟨_, step k h1 q, ⟨k + 1, by omega, q, rfl⟩, by simp only [Int.toNat_natCast]; omega, rfl⟩
 ·left
  have : k = n := by omega
  subst this
  exact stop
theorem sameItems_self {l : List Api_Item} (h : l.length ≤ 100000) : mementoref13_SameItems l l = some true := by
 unfold mementoref13_SameItems
 rw [if_neg (by simp), show (0 : Int) = ((0 : Nat) : Int) from rfl, loop_all (t := .go ()) (n := l.length) (by omega) (by omega)]
 ·rfl
 ·intro k _ hk
  simp only [mementoref13_SameItems_L1]
  rw [if_pos (by simpa using hk), idx_at hk, Option.bind_some, Option.bind_some, if_neg (by simp), Option.bind_some, if_neg (by simp), next3 (by omega)]
 ·simp only [mementoref13_SameItems_L1]
  rw [if_neg (by simp)]; rfl
theorem streams_self {s : Api_Stream} (h : s.Items.length ≤ 100000) : mementohelp_Streams s s = some true := by
 unfold mementohelp_Streams
 rw [if_pos (by simp), if_pos (by simp), if_pos (by simp), if_pos (by simp), sameItems_self h]
 rfl
abbrev Pr := Int × Nat
def mkP (v : Api_Volume) (q : Pr) : Api_Stream := mkS v q.1 q.2
def prs (f : Int) : List Nat → List Pr
 | [] => []
 | t :: ts => (f, t) :: prs t ts
theorem seg_prs (v : Api_Volume) : ∀ (ts : List Nat) (f : Int), seg v f ts = (prs f ts).map (mkP v)
 | [], _ => rfl
 | t :: ts, f => by simp only [seg, prs, List.map_cons, seg_prs v ts]; rfl
theorem mon_ft {v : Api_Volume} : ∀ {ts : List Nat} {f : Int}, -1 ≤ f → Mon v.Writes.length f ts → ∀ q ∈ prs f ts, Ft v q.1 q.2
 | [], _, _, _, q, hq => by cases hq
 | t :: ts, f, hf, h, q, hq => by
  rcases List.mem_cons.1 hq with rfl | hq
  ·exact ⟨hf, h.1, h.2.1⟩
  ·exact mon_ft (by omega) h.2.2 q hq
section
variable {m : Nat} {v : Api_Volume}
theorem full_eq {s : Api_Stream} (hl : s.Items.length ≤ 100000) (hs : SRt s) : chain_full s = some (decide (s.From < 0)) := by
 unfold chain_full
 rw [right_eq hl, Option.bind_some, if_pos (by simpa using hs)]
 rfl
end
theorem known22 : mementolaw22_known = some true := by kernel_rfl
end Go.Proofs.YtgdbmgnfaefhoaaGreat.Am
namespace Go.Proofs.YtgdbmgnfaefhoaaGreat.Am
open Go
set_option linter.unusedVariables false
set_option linter.unusedSimpArgs false
set_option maxRecDepth 100000
open Classical
theorem rows8 {l : List (List Int)} (h : ∀ y ∈ l, (∀ x ∈ y, Ik .u8 x) ∧ y.length * 1 ≤ 140737488351232) : ∀ y ∈ l, Byt y := fun y hy => byt8 (h y hy).1
def flw (a b : Api_Stream) : Bool := decide (a.Blocks = b.Blocks ∧ a.Size = b.Size ∧ b.From = a.To)
theorem flw_eq {a b : Api_Stream} (ha : SRt a) (hb : SRt b) (la : a.Items.length ≤ 100000) (lb : b.Items.length ≤ 100000) : chain_Follows a b = some (flw a b) ∧ mementoref21_Follows a b = some (flw a b) := by
 unfold chain_Follows mementoref21_Follows flw
 rw [right_eq la, right_eq lb, refright_eq la, refright_eq lb]
 simp only [Option.bind_some]
 rw [if_pos (by simpa using ha), if_pos (by simpa using hb)]
 by_cases c1 : a.Blocks = b.Blocks
 ·rw [if_pos (by simpa using c1)]
  by_cases c2 : a.Size = b.Size
  ·rw [if_pos (by simpa using c2)]
   simp only [Option.bind_some]
   have e : (b.From == a.To) = decide (a.Blocks = b.Blocks ∧ a.Size = b.Size ∧ b.From = a.To) := by simp [c1, c2]; rfl
   rw [e]; exact ⟨rfl, rfl⟩
  ·rw [if_neg (by simpa using c2)]
   rw [decide_eq_false (fun h => c2 h.2.1)]; exact ⟨rfl, rfl⟩
 ·rw [if_neg (by simpa using c1)]
  rw [decide_eq_false (fun h => c1 h.1)]; exact ⟨rfl, rfl⟩
def GoodL (l : List Api_Stream) : Prop := ∀ s ∈ l, SRt s ∧ s.Items.length ≤ 100000
theorem reads_L {y : List (List Int)} (hy : ∀ r ∈ y, Byt r ∧ r.length ≤ 60000) (hl : y.length ≤ 1000) : ∃ r, loopN (chain_Decode_L1 y) fuel ([], 0) = some r ∧ loopN (mementoref21_Decode_L1 y) fuel ([], 0) = some r ∧
  ((∃ i e, r = .ret ([], i, e)) ∨ ∃ out, r = .go out ∧ GoodL out ∧ out.length = y.length) := by
 have key : ∀ (n k : Nat) (out : List Api_Stream), n + k = y.length → out.length = k → GoodL out → ∀ m, n < m → ∃ r, loopN (chain_Decode_L1 y) m (out, (k : Int)) = some r ∧ loopN (mementoref21_Decode_L1 y) m (out, (k : Int)) = some r ∧
   ((∃ i e, r = .ret ([], i, e)) ∨ ∃ out, r = .go out ∧ GoodL out ∧ out.length = y.length) := by
  intro n
  induction n with
  | zero =>
   intro k out hk ho hg m hm
   obtain ⟨m, rfl⟩ : ∃ j, m = j + 1 := ⟨m - 1, by omega⟩
   refine ⟨.go out, ?_, ?_, .inr ⟨out, rfl, hg, by omega⟩⟩
   ·simp only [loopN, chain_Decode_L1]; rw [if_neg (by simp; omega)]; rfl
   ·simp only [loopN, mementoref21_Decode_L1]; rw [if_neg (by simp; omega)]; rfl
  | succ n ih =>
   intro k out hk ho hg m hm
   obtain ⟨m, rfl⟩ : ∃ j, m = j + 1 := ⟨m - 1, by omega⟩
   have hlt : k < y.length := by omega
   obtain ⟨h1, h2⟩ := hy _ (List.getElem_mem hlt)
   obtain ⟨s, e, r1, r2, r3, r4⟩ := reads_same h1 h2
   by_cases c : e = 0
   ·subst c
    have hs : SRt s := by
     rcases r4 with ⟨_, g, _⟩ | ⟨q, _⟩ | ⟨q, _⟩ | ⟨q, _⟩
     ·exact g.1
     all_goals omega
    have s1 : chain_Decode_L1 y (out, (k : Int)) = some (.go (out ++ [s], ((k + 1 : Nat) : Int))) := by
     simp only [chain_Decode_L1]
     rw [if_pos (by simpa using hlt), idx_at hlt, Option.bind_some, r1, Option.bind_some]
     simp only
     rw [if_neg (by simp), app_of (by simp; omega) (by simp; omega), Option.bind_some, next3 (by omega)]
    have s2 : mementoref21_Decode_L1 y (out, (k : Int)) = some (.go (out ++ [s], ((k + 1 : Nat) : Int))) := by
     simp only [mementoref21_Decode_L1]
     rw [if_pos (by simpa using hlt), idx_at hlt, Option.bind_some, r2, Option.bind_some]
     simp only
     rw [if_neg (by simp), app_of (by simp; omega) (by simp; omega), Option.bind_some, next3 (by omega)]
    simp only [loopN, s1, s2]
    exact ih (k + 1) (out ++ [s]) (by omega) (by simp; omega) (fun x hx => by
     rcases List.mem_append.1 hx with hx | hx
     ·exact hg x hx
     ·rw [List.mem_singleton] at hx; subst hx; exact ⟨hs, r3⟩) m (by omega)
   ·have s1 : chain_Decode_L1 y (out, (k : Int)) = some (.ret (.ret ([], (k : Int), e))) := by
     simp only [chain_Decode_L1]
     rw [if_pos (by simpa using hlt), idx_at hlt, Option.bind_some, r1, Option.bind_some]
     simp only
     rw [if_pos (by simpa using c)]; rfl
    have s2 : mementoref21_Decode_L1 y (out, (k : Int)) = some (.ret (.ret ([], (k : Int), e))) := by
     simp only [mementoref21_Decode_L1]
     rw [if_pos (by simpa using hlt), idx_at hlt, Option.bind_some, r2, Option.bind_some]
     simp only
     rw [if_pos (by simpa using c)]; rfl
    simp only [loopN, s1, s2]
    exact ⟨_, rfl, rfl, .inl ⟨_, _, rfl⟩⟩
 exact key y.length 0 [] (by omega) rfl (fun x hx => by cases hx) fuel (by unfold fuel; omega)
theorem decode_same {y : List (List Int)} (hy : ∀ r ∈ y, Byt r ∧ r.length ≤ 60000) (hl : y.length ≤ 1000) : ∃ out i e, chain_Decode y = some (out, i, e) ∧ mementoref21_Decode y = some (out, i, e) ∧ out.length ≤ 1000 ∧ GoodL out := by
 obtain ⟨r, h1, h2, h3⟩ := reads_L hy hl
 unfold chain_Decode mementoref21_Decode
 rw [h1, h2]
 rcases h3 with ⟨i, e, rfl⟩ | ⟨out, rfl, hg, ho⟩
 ·exact ⟨[], i, e, rfl, rfl, by simp, fun x hx => by cases hx⟩
 rw [kont_go', kont_go']
 unfold mementoref21_bad
 match out, hg, ho with
 | [], _, _ => exact ⟨[], 0, 38, rfl, rfl, by simp, fun x hx => by cases hx⟩
 | s :: l, hg, ho =>
  obtain ⟨g1, g2⟩ := hg s (by simp)
  have hlen : (s :: l).length ≤ 1000 := by omega
  have i0 : idx (s :: l) 0 = some s := rfl
  have e0 : (((s :: l).length : Int) == 0) = false := by simp; omega
  rw [e0]
  simp only [Bool.false_eq_true, if_false]
  rw [i0, Option.bind_some, Option.bind_some, full_eq g2 g1, refright_eq g2, Option.bind_some, Option.bind_some, Option.bind_some, if_neg (show ¬ ((!decide (SRt s)) = true) by simpa using g1)]
  by_cases c : s.From < 0
  rotate_left
  ·refine ⟨[], 0, 38, ?_, ?_, by simp, fun x hx => by cases hx⟩
   ·rw [decide_eq_false c]; rfl
   ·rw [decide_eq_true (by omega)]; rfl
  rw [decide_eq_true c, decide_eq_false (by omega), Option.bind_some, if_neg (by simp), if_neg (by simp)]
  have key : ∀ (n k : Nat), n + k = (s :: l).length → 1 ≤ k → ∀ m, n < m → (loopN (chain_Decode_L2 (s :: l)) m (k : Int) = some (.go ()) ∧ loopN (mementoref21_bad_L1 (s :: l)) m (k : Int) = some (.go ())) ∨
    ∃ i : Nat, loopN (chain_Decode_L2 (s :: l)) m (k : Int) = some (.ret ([], (i : Int), 38)) ∧ loopN (mementoref21_bad_L1 (s :: l)) m (k : Int) = some (.ret (i : Int)) := by
   intro n
   induction n with
   | zero =>
    intro k hk _ m hm
    obtain ⟨m, rfl⟩ : ∃ j, m = j + 1 := ⟨m - 1, by omega⟩
    left
    constructor
    ·simp only [loopN, chain_Decode_L2]; rw [if_neg (by rw [decide_eq_true_eq]; omega)]; rfl
    ·simp only [loopN, mementoref21_bad_L1]; rw [if_neg (by rw [decide_eq_true_eq]; omega)]; rfl
   | succ n ih =>
    intro k hk k1 m hm
    obtain ⟨m, rfl⟩ : ∃ j, m = j + 1 := ⟨m - 1, by omega⟩
    have hlt : k < (s :: l).length := by omega
    have hlt2 : k - 1 < (s :: l).length := by omega
    obtain ⟨a1, a2⟩ := hg _ (List.getElem_mem hlt)
    obtain ⟨b1, b2⟩ := hg _ (List.getElem_mem hlt2)
    obtain ⟨f1, f2⟩ := flw_eq b1 a1 b2 a2
    have hc : decide ((k : Int) < ((s :: l).length : Int)) = true := by rw [decide_eq_true_eq]; omega
    have hw : IntKind.wrap .i64 ((k : Int) - 1) = ((k - 1 : Nat) : Int) := by rw [wrap64 (by omega) (by omega)]; omega
    simp only [loopN, chain_Decode_L2, mementoref21_bad_L1]
    rw [if_pos hc, if_pos hc, hw, idx_at hlt2, Option.bind_some, Option.bind_some, idx_at hlt, Option.bind_some, Option.bind_some, f1, f2, Option.bind_some, Option.bind_some]
    cases flw (s :: l)[k - 1] (s :: l)[k]
    ·exact .inr ⟨k, rfl, rfl⟩
    ·simp only [Bool.not_true, Bool.false_eq_true, if_false]
     rw [next3 (by omega)]
     exact ih (k + 1) (by omega) (by omega) m (by omega)
  rcases key ((s :: l).length - 1) 1 (by simp) (by omega) fuel (by unfold fuel; omega) with ⟨k1, k2⟩ | ⟨i, k1, k2⟩
  ·have k1' : loopN (chain_Decode_L2 (s :: l)) fuel 1 = some (.go ()) := k1
   have k2' : loopN (mementoref21_bad_L1 (s :: l)) fuel 1 = some (.go ()) := k2
   rw [k1', k2', kont_go', kont_go']
   exact ⟨_, _, _, rfl, rfl, hlen, hg⟩
  ·have k1' : loopN (chain_Decode_L2 (s :: l)) fuel 1 = some (.ret ([], (i : Int), 38)) := k1
   have k2' : loopN (mementoref21_bad_L1 (s :: l)) fuel 1 = some (.ret (i : Int)) := k2
   rw [k1', k2', kont_ret, kont_ret, Option.bind_some, if_pos (by simp)]
   exact ⟨_, _, _, rfl, rfl, by simp, fun x hx => by cases hx⟩
end Go.Proofs.YtgdbmgnfaefhoaaGreat.Am
namespace Go.Proofs.YtgdbmgnfaefhoaaGreat.Am
open Go
set_option linter.unusedVariables false
set_option linter.unusedSimpArgs false
set_option maxRecDepth 100000
theorem remG {a : Int} (ha : 0 ≤ a ∧ a < 65536) {n : Nat} (hn : 1 ≤ n) (hn2 : n ≤ 100000) : ∃ k : Nat, k < n ∧ remI (IntKind.wrap .i64 a) (n : Int) = some (k : Int) := by
 rw [wrap64 (n := a) (by omega) (by omega)]
 unfold remI
 have q1 := Int.tmod_lt_of_pos a (show (0 : Int) < n by omega)
 have q2 := Int.tmod_nonneg (n : Int) ha.1
 rw [if_neg (by omega)]
 exact ⟨(Int.tmod a n).toNat, by omega, by rw [Int.toNat_of_nonneg q2]⟩
theorem xor8r (a b : Int) : 0 ≤ Go.bits .xor .u8 a b ∧ Go.bits .xor .u8 a b < 256 := by
 show 0 ≤ IntKind.wrap .u8 _ ∧ IntKind.wrap .u8 _ < 256
 rw [IntKind.wrap_u8]; omega
def RwOk (y : List (List Int)) : Prop := (∀ r ∈ y, Byt r ∧ r.length ≤ 60000) ∧ y.length ≤ 1000
theorem good_seg {m : Nat} {v : Api_Volume} (hv : VInv m v) (hm : m ≤ 1000) {ts : List Nat} (h : Mon v.Writes.length (-1) ts) : ∀ s ∈ seg v (-1) ts, Good s := fun s hs => by
 rw [seg_prs] at hs
 obtain ⟨q, hq, rfl⟩ := List.mem_map.1 hs
 have ft := mon_ft (by omega) h q hq
 exact ⟨mkS_right hv hm ft, fun x hx => (itm_data hv ft.hi hx).2⟩
theorem puts_L {l : List Api_Stream} (hl : l.length ≤ 1000) (hg : ∀ s ∈ l, Good s) : loopN (mementolaw22_ChainDecodes_L1 l) fuel ([], 0) = some (l.map streamB) := by
 refine loop_eqF (fun q : List (List Int) × Int => ∃ i : Nat, i ≤ l.length ∧ q = ((l.take i).map streamB, (i : Int))) (fun q => l.length - q.2.toNat) (fun _ => l.map streamB) ⟨0, by omega, rfl⟩ (by simp only; omega) ?_
 rintro _ ⟨i, hi, rfl⟩
 simp only [mementolaw22_ChainDecodes_L1]
 by_cases q : i < l.length
 ·right
  rw [if_pos (by simpa using q), idx_at q, Option.bind_some, (put_good (hg _ (List.getElem_mem q))).2, Option.bind_some]
  simp only
  rw [app_of (by simp; omega) (by simp; omega), Option.bind_some, next3 (by omega)]
  refine ⟨_, rfl, ⟨i + 1, q, by rw [List.take_succ_eq_append_getElem q, List.map_append]; rfl⟩, by simp only [Int.toNat_natCast]; omega, trivial⟩
 ·left
  have : i = l.length := by omega
  subst this
  rw [if_neg (by simp), List.take_length]; rfl
theorem raw_L {l : List (List Int)} (hl : l.length ≤ 1000) : ∃ r, loopN (mementolaw22_ChainDecodes_L2 l) fuel 0 = some r ∧ (r = .ret true ∨ r = .go () ∧ ∀ x ∈ l, x.length ≤ 60) := by
 refine loop_QF (fun s => ∃ k : Nat, k ≤ l.length ∧ s = (k : Int) ∧ ∀ x ∈ l.take k, x.length ≤ 60) (fun s => l.length - s.toNat) _ ⟨0, by omega, rfl, by simp⟩ (by simp; omega) ?_
 rintro _ ⟨k, hk, rfl, h⟩
 simp only [mementolaw22_ChainDecodes_L2]
 by_cases q : k < l.length
 ·rw [if_pos (by simpa using q), idx_at q, Option.bind_some]
  by_cases q1 : (l[k].length : Int) > 60
  ·left
   rw [if_pos (by simpa using q1)]
   exact ⟨_, rfl, .inl rfl⟩
  ·right
   rw [if_neg (by simpa using q1), next3 (by omega)]
   refine ⟨_, rfl, ⟨k + 1, q, rfl, fun x hx => ?_⟩, by simp only [Int.toNat_natCast]; omega⟩
   rw [List.take_succ_eq_append_getElem q, List.mem_append, List.mem_singleton] at hx
   rcases hx with hx | rfl
   ·exact h x hx
   ·omega
 ·left
  have : k = l.length := by omega
  subst this
  rw [if_neg (by simp)]
  rw [List.take_length] at h
  exact ⟨_, rfl, .inr ⟨rfl, h⟩⟩
theorem chainDecodes_eq {a0 a1 : List Int} {a2 : List (List Int)} {a3 a4 a5 : Int} (h0 : Byt a0) (h1 : Byt a1) (h2 : ∀ y ∈ a2, Byt y) (h3 : 0 ≤ a3 ∧ a3 < 65536) (h5 : 0 ≤ a5 ∧ a5 < 256) : mementolaw22_ChainDecodes a0 a1 a2 a3 a4 a5 = some true := by
 unfold mementolaw22_ChainDecodes
 rw [known22, Option.bind_some, if_neg (by simp)]
 by_cases c0 : (a0.length : Int) > 60
 ·rw [if_pos (by simpa using c0)]; rfl
 rw [if_neg (by simpa using c0)]
 by_cases c1 : (a1.length : Int) > 5
 ·rw [if_pos (by simpa using c1)]; rfl
 rw [if_neg (by simpa using c1), Option.bind_some]
 by_cases c2 : (a2.length : Int) > 4
 ·rw [if_pos (by simpa using c2)]
 rw [if_neg (by simpa using c2)]
 obtain ⟨v, ts, e1, hv, hf, e2, hmon⟩ := streams_ok (a0 := a0) (a1 := a1) (by omega) h0 (by omega) h1
 have hg := good_seg hv (by omega) hmon
 have hsl : (seg v (-1) ts).length = ts.length := seg_len v ts (-1)
 obtain ⟨B, hB⟩ : ∃ B, (seg v (-1) ts).map streamB = B := ⟨_, rfl⟩
 have hBl : B.length = ts.length := by rw [← hB, List.length_map, hsl]
 have hBr : ∀ r ∈ B, Byt r ∧ r.length ≤ 16004 ∧ 4 ≤ r.length := fun r hr => by
  rw [← hB] at hr
  obtain ⟨s, hs, rfl⟩ := List.mem_map.1 hr
  obtain ⟨q1, q2, q3⟩ := streamB_len (hg s hs)
  exact ⟨q2, q1, by omega⟩
 have oB : RwOk B := ⟨fun r hr => by obtain ⟨q1, q2, _⟩ := hBr r hr; exact ⟨q1, by omega⟩, by omega⟩
 rw [e1, Option.bind_some]
 simp only
 rw [puts_L (by omega) hg, Option.bind_some, hB, app_of (by simp; omega) (by simp; omega), Option.bind_some, List.nil_append]
 obtain ⟨C, hC, oC⟩ : ∃ C, (if decide ((B.length : Int) > 0) = true then (remI (IntKind.wrap .i64 a5) (B.length : Int)).bind fun x65 => (idx B x65).bind fun x66 => (app 1 ([] : List Int) x66).bind fun m67 => (remI (IntKind.wrap .i64 a3) (m67.length : Int)).bind fun x80 => (idx m67 x80).bind fun x81 => (updL m67 x80 (Go.bits .xor .u8 x81 a4)).bind fun m82 => (updL B x65 m82).bind fun m95 => some m95 else some B) = some C ∧ RwOk C := by
  by_cases c : B.length = 0
  ·exact ⟨B, by rw [if_neg (by simp only [decide_eq_true_eq]; omega)], oB⟩
  ·obtain ⟨k, hk, ek⟩ := remG (a := a5) ⟨h5.1, by omega⟩ (n := B.length) (by omega) (by omega)
   obtain ⟨q1, q2, q3⟩ := hBr _ (List.getElem_mem hk)
   obtain ⟨j, hj, ej⟩ := remG h3 (n := (B[k]).length) (by omega) (by omega)
   refine ⟨B.set k (B[k].set j (Go.bits .xor .u8 B[k][j] a4)), ?_, fun r hr => ?_, by rw [List.length_set]; omega⟩
   ·rw [if_pos (by simp only [decide_eq_true_eq]; omega), ek, Option.bind_some, idx_at hk, Option.bind_some, app_of (by simp; omega) (by simp; omega), Option.bind_some, List.nil_append, ej, Option.bind_some, idx_at hj, Option.bind_some, updL_nat hj, Option.bind_some, updL_nat hk, Option.bind_some]
   ·rcases List.mem_or_eq_of_mem_set hr with hr | rfl
    ·obtain ⟨p1, p2, _⟩ := hBr r hr; exact ⟨p1, by omega⟩
    ·refine ⟨fun x hx => ?_, by rw [List.length_set]; omega⟩
     rcases List.mem_or_eq_of_mem_set hx with hx | rfl
     ·exact q1 x hx
     ·exact xor8r _ _
 rw [hC, Option.bind_some]
 obtain ⟨r, hr, h⟩ := raw_L (l := a2) (by omega)
 rw [hr]
 rcases h with rfl | ⟨rfl, hsm⟩
 ·rfl
 have oA : RwOk a2 := ⟨fun r hr => ⟨h2 r hr, by have := hsm r hr; omega⟩, by omega⟩
 have oD : RwOk (B ++ a2) := ⟨fun r hr => (List.mem_append.1 hr).elim (oB.1 r) (oA.1 r), by rw [List.length_append]; omega⟩
 obtain ⟨d, hd1, hd2⟩ : ∃ d : Nat, d ≤ B.length ∧ minI 1 (B.length : Int) = (d : Int) := by
  unfold minI
  by_cases c : (B.length : Int) < 1
  ·exact ⟨B.length, by omega, by rw [if_pos c]⟩
  ·exact ⟨1, by omega, by rw [if_neg c]; rfl⟩
 have oE : RwOk (B.drop d) := ⟨fun r hr => oB.1 r (List.mem_of_mem_drop hr), by rw [List.length_drop]; omega⟩
 rw [kont_go', app_of (by omega) (by omega), Option.bind_some, hd2, slc_nat _ hd1 (Nat.le_refl _), List.take_length, Option.bind_some]
 have all5 : ∀ y ∈ ([B, C, a2, B ++ a2, B.drop d] : List (List (List Int))), RwOk y := fun y hy => by
  simp only [List.mem_cons, List.not_mem_nil, or_false] at hy
  rcases hy with rfl | rfl | rfl | rfl | rfl <;> assumption
 have L3 : loopN (mementolaw22_ChainDecodes_L3 a2 B C (B ++ a2) (B.drop d)) fuel 0 = some (.go ()) := by
  rw [show (0 : Int) = ((0 : Nat) : Int) from rfl]
  refine loop_all (n := 5) (by omega) (by omega) (fun k _ hk => ?_) ?_
  ·simp only [mementolaw22_ChainDecodes_L3]
   obtain ⟨L, hL⟩ : ∃ L, ([B, C, a2, B ++ a2, B.drop d] : List (List (List Int))) = L := ⟨_, rfl⟩
   have hLl : L.length = 5 := by rw [← hL]; rfl
   rw [hL] at all5 ⊢
   obtain ⟨o1, o2⟩ := all5 _ (List.getElem_mem (show k < L.length by omega))
   obtain ⟨out, i, e, d1, d2, d3, d4⟩ := decode_same o1 o2
   rw [if_pos (by simp only [decide_eq_true_eq]; omega), idx_at (by omega), Option.bind_some, d1, Option.bind_some]
   simp only
   rw [d2, Option.bind_some]
   simp only
   have L4 : loopN (mementolaw22_ChainDecodes_L4 out out) fuel ((0 : Nat) : Int) = some (.go ()) := by
    refine loop_all (n := out.length) (by omega) (by omega) (fun j _ hj => ?_) ?_
    ·simp only [mementolaw22_ChainDecodes_L4]
     rw [if_pos (by simpa using hj), idx_at hj, Option.bind_some, Option.bind_some, streams_self (d4 _ (List.getElem_mem hj)).2, Option.bind_some, if_neg (by simp), next3 (by omega)]
    ·simp only [mementolaw22_ChainDecodes_L4]
     rw [if_neg (by simp)]; rfl
   rw [if_neg (by simp), if_neg (by simp), show ((out.length : Int) != (out.length : Int)) = false by simp, Option.bind_some, if_neg (by simp), show (0 : Int) = ((0 : Nat) : Int) from rfl, L4, kont_go', next3 (by omega)]
  ·simp only [mementolaw22_ChainDecodes_L3]
   rw [if_neg (by simp)]; rfl
 rw [L3, kont_go']
end Go.Proofs.YtgdbmgnfaefhoaaGreat.Am
