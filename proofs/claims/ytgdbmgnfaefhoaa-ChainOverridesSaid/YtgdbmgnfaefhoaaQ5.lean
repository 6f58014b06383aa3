/- Part 5 of the proof: values, memory, walks or the plain law. -/
import Derived.Test.YtgdbmgnfaefhoaaQ4
namespace Go.Proofs.Ytgdbmgnfaefhoaa.Am
open Go
set_option linter.unusedVariables false
set_option linter.unusedSimpArgs false
set_option maxRecDepth 100000
theorem range_one (p : Nat → Bool) (n : Nat) : ∀ B, ((List.range B).filter p).filter (fun j : Nat => (j : Int) == (n : Int)) = if n < B ∧ p n = true then [n] else []
 | 0 => by simp
 | B + 1 => by
  rw [List.range_succ, List.filter_append, List.filter_append, range_one p n B]
  by_cases e : n = B
  ·subst e
   rw [if_neg (by omega)]
   cases hp : p n <;> simp [hp]
  ·have : ([B].filter p).filter (fun j : Nat => (j : Int) == (n : Int)) = [] := by
    rw [List.filter_eq_nil_iff]
    intro x hx
    have := (List.mem_filter.1 hx).1
    simp only [List.mem_singleton] at this
    subst this
    simp; omega
   rw [this, List.append_nil]
   by_cases h : n < B ∧ p n = true
   ·rw [if_pos h, if_pos ⟨by omega, h.2⟩]
   ·rw [if_neg h, if_neg (fun q => h ⟨by omega, q.2⟩)]
section
variable {m : Nat} {v : Api_Volume}
theorem itm_fk (f : Int) (t n : Nat) : fk (n : Int) (itm v f t) = if n < v.Blocks.toNat ∧ ch v f t n = true then [Api_Item.mk (n : Int) ((stateL v t).getD n [])] else [] := by
 unfold fk itm
 rw [List.filter_map]
 have e : ((fun x : Api_Item => x.Block == (n : Int)) ∘ fun k : Nat => Api_Item.mk (k : Int) ((stateL v t).getD k [])) = fun j : Nat => (j : Int) == (n : Int) := rfl
 rw [e, range_one]
 split <;> simp
theorem itm_fk_neg (f : Int) (t : Nat) {k : Int} (hk : k < 0) : fk k (itm v f t) = [] := by
 unfold fk itm
 rw [List.filter_eq_nil_iff]
 intro x hx
 obtain ⟨j, _, rfl⟩ := List.mem_map.1 hx
 simp; omega
theorem itm_sup (f : Int) (t : Nat) : SUp (itm v f t) := by
 unfold SUp itm
 rw [List.pairwise_map]
 exact (List.pairwise_lt_range.filter _).imp fun h => by simp only; omega
theorem itm_mem {f : Int} {t : Nat} {x : Api_Item} (hx : x ∈ itm v f t) : ∃ k, k < v.Blocks.toNat ∧ x = Api_Item.mk (k : Int) ((stateL v t).getD k []) := by
 unfold itm at hx
 obtain ⟨k, hk, rfl⟩ := List.mem_map.1 hx
 exact ⟨k, List.mem_range.1 (List.mem_filter.1 hk).1, rfl⟩
theorem itm_len (f : Int) (t : Nat) : (itm v f t).length ≤ v.Blocks.toNat := by
 unfold itm
 rw [List.length_map]
 have := List.length_filter_le (ch v f t) (List.range v.Blocks.toNat)
 simpa using this
theorem itm_full {f : Int} (hf : f < 0) (t : Nat) : itm v f t = (List.range v.Blocks.toNat).map fun k : Nat => Api_Item.mk (k : Int) ((stateL v t).getD k []) := by
 unfold itm
 congr 1
 rw [List.filter_eq_self]
 intro k _
 unfold ch
 rw [decide_eq_true hf]; rfl
theorem itm_data (hv : VInv m v) {f : Int} {t : Nat} (ht : t ≤ v.Writes.length) {x : Api_Item} (hx : x ∈ itm v f t) : (x.Data.length : Int) = v.Size ∧ Byt x.Data := by
 obtain ⟨k, hk, rfl⟩ := itm_mem hx
 have hl : k < (stateL v t).length := by rw [stateL_len]; exact hk
 have := stateL_row hv t ht _ (List.getElem_mem hl)
 simp only [List.getD_eq_getElem?_getD, List.getElem?_eq_getElem hl, Option.getD_some]
 exact this
structure Ft (v : Api_Volume) (f : Int) (t : Nat) : Prop where
 lo : -1 ≤ f
 le : f ≤ t
 hi : t ≤ v.Writes.length
theorem mkS_right (hv : VInv m v) (hm : m ≤ 1000) {f : Int} {t : Nat} (h : Ft v f t) : SRt (mkS v f t) := by
 obtain ⟨h1, h2, h3⟩ := h
 have hb := hv.blocks
 have hs := hv.size
 have hw := hv.writes
 refine ⟨⟨⟨by show 1 ≤ v.Blocks; omega, by show v.Blocks ≤ 256; omega⟩, ⟨by show 1 ≤ v.Size; omega, by show v.Size ≤ 32; omega⟩, h1, h2, by show 0 ≤ (t : Int); omega, by show (t : Int) ≤ 1099511627776; omega, fun hf => ?_⟩, fun k hk => ?_⟩
 ·show ((itm v f t).length : Int) = v.Blocks
  rw [itm_full (show f < 0 from hf), List.length_map, List.length_range]; omega
 ·have hx := List.getElem_mem hk
  obtain ⟨j, hj, e⟩ := itm_mem hx
  obtain ⟨d1, _⟩ := itm_data hv h3 hx
  refine ⟨by rw [e]; simp only; omega, by rw [e]; show (j : Int) < v.Blocks; omega, fun h0 => ?_, d1⟩
  exact (List.pairwise_iff_getElem.1 (itm_sup (v := v) f t)) (k - 1) k (by have : k < (itm v f t).length := hk; omega) hk (by omega)
theorem mkS_len (hv : VInv m v) (f : Int) (t : Nat) : (mkS v f t).Items.length ≤ 9 := by
 have := itm_len (v := v) f t
 have := hv.blocks
 show (itm v f t).length ≤ 9
 omega
theorem ovr_ne {n : Nat} : ∀ {l : List Api_Item} {s : List (List Int)}, (∀ x ∈ l, x.Block.toNat ≠ n) → (ovr s l).getD n [] = s.getD n []
 | [], s, _ => rfl
 | x :: l, s, h => by
  show (ovr (s.set x.Block.toNat x.Data) l).getD n [] = _
  rw [ovr_ne fun y hy => h y (List.mem_cons_of_mem _ hy), List.getD_eq_getElem?_getD, List.getElem?_set_ne (h x (List.mem_cons_self ..)), ← List.getD_eq_getElem?_getD]
theorem wr_succ {f u n : Nat} (hu : u < v.Writes.length) (hf : f ≤ u) : wr v f (u + 1) n = (wr v f u n || (v.Writes[u]).Items.any fun q => q.Block == (n : Int)) := by
 unfold wr
 rw [take_drop_succ hu hf, List.any_append, List.any_cons, List.any_nil, Bool.or_false]
theorem state_same (hv : VInv m v) {t n : Nat} : ∀ d, t + d ≤ v.Writes.length → wr v t (t + d) n = false → (stateL v (t + d)).getD n [] = (stateL v t).getD n []
 | 0, _, _ => rfl
 | d + 1, h, hw => by
  have hu : t + d < v.Writes.length := by omega
  rw [show t + (d + 1) = t + d + 1 by omega] at hw ⊢
  rw [wr_succ hu (by omega), Bool.or_eq_false_iff] at hw
  rw [stateL_succ hu, ovr_ne fun x hx => ?_]
  ·exact state_same hv d (by omega) hw.1
  ·have q := List.any_eq_false.1 hw.2 x hx
   have q2 := ((hv.items _ (List.getElem_mem hu)).2.2 x hx).1
   simp at q
   omega
theorem wr_split {f t u n : Nat} (h1 : f ≤ t) (h2 : t ≤ u) (h3 : u ≤ v.Writes.length) : wr v f u n = (wr v f t n || wr v t u n) := by
 unfold wr
 have e : (v.Writes.take u).drop f = (v.Writes.take t).drop f ++ (v.Writes.take u).drop t := by
  have : v.Writes.take u = v.Writes.take t ++ (v.Writes.take u).drop t := by
   conv => lhs; rw [← List.take_append_drop t (v.Writes.take u), List.take_take, Nat.min_eq_left h2]
  conv => lhs; rw [this, List.drop_append_of_le_length (by rw [List.length_take]; omega)]
 rw [e, List.any_append]
theorem ch_split {f : Int} {t u n : Nat} (h1 : f ≤ t) (h2 : t ≤ u) (h3 : u ≤ v.Writes.length) : ch v f u n = (ch v f t n || ch v t u n) := by
 unfold ch
 by_cases hf : f < 0
 ·rw [decide_eq_true hf]; simp
 ·rw [decide_eq_false hf, decide_eq_false (by omega), Bool.false_or, Bool.false_or, Bool.false_or, Int.toNat_natCast]
  exact wr_split (by omega) h2 h3
theorem clone1i {l : List Api_Item} (h : l.length ≤ 100000) : slices_Clone_Lapi_Item_api_Item l = some l := by
 unfold slices_Clone_Lapi_Item_api_Item
 rw [app_of (by simp; omega) (by simp; omega)]; rfl
theorem copied_eq {l : List Api_Item} (h : l.length ≤ 100000) (hd : ∀ x ∈ l, x.Data.length ≤ 100000) : chain_copied l = some l := by
 unfold chain_copied
 rw [clone1i h, Option.bind_some, loop_eqF (s := ((0 : Int), l)) (fun s => ∃ i : Nat, i ≤ l.length ∧ s = ((i : Int), l)) (fun s => l.length - s.1.toNat) (fun _ => l) ⟨0, by omega, rfl⟩ (by simp only; omega)]
 ·rfl
 rintro _ ⟨i, hi, rfl⟩
 simp only [chain_copied_L1]
 by_cases c : i < l.length
 ·right
  rw [if_pos (by simpa using c), idx_at c, Option.bind_some, clone1 (by have := hd _ (List.getElem_mem c); omega), Option.bind_some, updL_nat c, Option.bind_some, next3 (by omega)]
  refine ⟨_, rfl, ⟨i + 1, c, ?_⟩, by simp only [Int.toNat_natCast]; omega, trivial⟩
  rw [show Api_Item.mk l[i].Block l[i].Data = l[i] from rfl, List.set_getElem_self]
 ·left
  rw [if_neg (by simpa using c)]; rfl
theorem concat2 {a b : List Api_Item} (ha : a.length ≤ 500) (hb : b.length ≤ 500) : slices_Concat_Lapi_Item_api_Item [a, b] = some (a ++ b) := by
 have i0 : idx [a, b] 0 = some a := rfl
 have i1 : idx [a, b] 1 = some b := rfl
 have L1 : loopN (slices_Concat_Lapi_Item_api_Item_L1 [a, b]) fuel (0, 0) = some ((a.length + b.length : Nat) : Int) := by
  refine loop_eqF (fun q : Int × Int => q = (0, 0) ∨ q = ((a.length : Int), 1) ∨ q = (((a.length + b.length : Nat) : Int), 2)) (fun q => 2 - q.2.toNat) (fun _ => ((a.length + b.length : Nat) : Int)) (.inl rfl) (by simp) ?_
  rintro _ (rfl | rfl | rfl)
  ·right
   simp only [slices_Concat_Lapi_Item_api_Item_L1]
   rw [if_pos (by simp), i0, Option.bind_some, wrap64 (by omega) (by omega), if_neg (by simp)]
   exact ⟨_, rfl, .inr (.inl (by simp; rfl)), (show (2 - (IntKind.wrap .i64 (0 + 1)).toNat : Nat) < 2 - (0 : Int).toNat by decide), trivial⟩
  ·right
   simp only [slices_Concat_Lapi_Item_api_Item_L1]
   rw [if_pos (by simp), i1, Option.bind_some, wrap64 (by omega) (by omega), if_neg (by simp; omega)]
   exact ⟨_, rfl, .inr (.inr (by simp; rfl)), (show (2 - (IntKind.wrap .i64 (1 + 1)).toNat : Nat) < 2 - (1 : Int).toNat by decide), trivial⟩
  ·left
   simp only [slices_Concat_Lapi_Item_api_Item_L1]
   rw [if_neg (by simp)]; rfl
 have L2 : loopN (slices_Concat_Lapi_Item_api_Item_L2 [a, b]) fuel ([], 0) = some (a ++ b) := by
  refine loop_eqF (fun q : List Api_Item × Int => q = ([], 0) ∨ q = (a, 1) ∨ q = (a ++ b, 2)) (fun q => 2 - q.2.toNat) (fun _ => a ++ b) (.inl rfl) (by simp) ?_
  rintro _ (rfl | rfl | rfl)
  ·right
   simp only [slices_Concat_Lapi_Item_api_Item_L2]
   rw [if_pos (by simp), i0, Option.bind_some, app_of (by simp; omega) (by simp; omega), Option.bind_some]
   exact ⟨_, rfl, .inr (.inl (by simp; rfl)), (show (2 - (IntKind.wrap .i64 (0 + 1)).toNat : Nat) < 2 - (0 : Int).toNat by decide), trivial⟩
  ·right
   simp only [slices_Concat_Lapi_Item_api_Item_L2]
   rw [if_pos (by simp), i1, Option.bind_some, app_of (by omega) (by omega), Option.bind_some]
   exact ⟨_, rfl, .inr (.inr (by simp; rfl)), (show (2 - (IntKind.wrap .i64 (1 + 1)).toNat : Nat) < 2 - (1 : Int).toNat by decide), trivial⟩
  ·left
   simp only [slices_Concat_Lapi_Item_api_Item_L2]
   rw [if_neg (by simp)]; rfl
 have G : slices_Grow_Lapi_Item_api_Item_nil ((a.length + b.length : Nat) : Int) = some [] := by
  unfold slices_Grow_Lapi_Item_api_Item_nil
  rw [if_neg (by simp; omega), show IntKind.wrap .i64 ((0 : Int) - 0) = 0 from rfl, Int.sub_zero, wrap64 (by omega) (by omega)]
  by_cases h : ((a.length + b.length : Nat) : Int) > 0
  ·have m0 : mkz 32 ((a.length + b.length : Nat) : Int) = some () := by unfold mkz; rw [if_pos ⟨by omega, by rw [Int.toNat_natCast]; omega, by omega⟩]
   rw [if_pos (by simpa using h), m0]; rfl
  ·rw [if_neg (by simpa using h)]
 unfold slices_Concat_Lapi_Item_api_Item
 rw [L1, Option.bind_some, G, Option.bind_some, L2]
 rfl
theorem isort_all {l : List Api_Item} (hl : l.length ≤ 900) : slices_insertionSortCmpFunc_api_Item l 0 (l.length : Int) (fun z0 z1 => chain_Merge_1 z0 z1) = some (isV l l.length).reverse := by
 by_cases h : 1 ≤ l.length
 ·exact isort_eq hl h
 ·have : l = [] := List.eq_nil_of_length_eq_zero (by omega)
  subst this
  rfl
theorem sorted_eq {l : List Api_Item} (hl : l.length ≤ 19) : ∃ L, slices_SortStableFunc_Lapi_Item_api_Item l (fun z0 z1 => chain_Merge_1 z0 z1) = some L ∧ L.length = l.length ∧ Up L ∧ ∀ k, fk k L = fk k l := by
 refine ⟨(isV l l.length).reverse, ?_, by rw [List.length_reverse, isV_len], ?_, fun k => ?_⟩
 ·have c1 : chkl l.length (isV l l.length).reverse = some () := by unfold chkl; rw [if_pos (by rw [List.length_reverse, isV_len])]
  have s1 : loopN (slices_stableCmpFunc_api_Item_L1 l (l.length : Int) (fun z0 z1 => chain_Merge_1 z0 z1)) fuel (0, 20, l) = some (0, l) := by
   refine loop_eqF (s := ((0 : Int), (20 : Int), l)) (fun q => q = (0, 20, l)) (fun _ => 0) (fun _ => (0, l)) rfl (by omega) ?_
   rintro _ rfl
   left
   simp only [slices_stableCmpFunc_api_Item_L1]
   rw [if_neg (by simp; omega)]; rfl
  have s2 : loopN (slices_stableCmpFunc_api_Item_L2 (l.length : Int)) fuel 20 = some () := by
   refine loop_eqF (s := (20 : Int)) (fun q => q = 20) (fun _ => 0) (fun _ => ()) rfl (by omega) ?_
   rintro _ rfl
   left
   simp only [slices_stableCmpFunc_api_Item_L2]
   rw [if_neg (by simp; omega)]; rfl
  unfold slices_SortStableFunc_Lapi_Item_api_Item slices_stableCmpFunc_api_Item
  rw [s1, Option.bind_some]
  simp only
  rw [isort_all (by omega), Option.bind_some, c1, Option.bind_some, s2, Option.bind_some, Option.bind_some, c1, Option.bind_some]
 ·have h : (isV l l.length).reverse.Pairwise fun x y => x.Block ≤ y.Block := by rw [List.pairwise_reverse]; exact isV_dn l l.length
  intro i j hij hj
  unfold bk
  rw [gD_at hj, gD_at (by omega)]
  exact List.pairwise_iff_getElem.1 h i j (by omega) hj hij
 ·unfold fk
  rw [List.filter_reverse]
  have := isV_fk k l l.length (Nat.le_refl _)
  unfold fk at this
  rw [this, List.reverse_reverse, List.take_length]
theorem follows_eq (hv : VInv m v) (hm : m ≤ 1000) {f g : Int} {t u : Nat} (h1 : Ft v f t) (h2 : Ft v g u) : chain_Follows (mkS v f t) (mkS v g u) = some (g == (t : Int)) := by
 have l1 := mkS_len hv f t
 have l2 := mkS_len hv g u
 unfold chain_Follows
 rw [right_eq (by omega), right_eq (by omega), Option.bind_some, if_pos (by simpa using mkS_right hv hm h1), Option.bind_some, if_pos (by simpa using mkS_right hv hm h2), if_pos (by simp [mkS]), if_pos (by simp [mkS])]
 rfl
theorem merge_eq (hv : VInv m v) (hm : m ≤ 1000) {f : Int} {t u : Nat} (h1 : Ft v f t) (h2 : t ≤ u) (h3 : u ≤ v.Writes.length) : chain_Merge (mkS v f t) (mkS v t u) = some (mkS v f u, 0) := by
 have hb := hv.blocks
 have hs := hv.size
 have h2' : Ft v t u := ⟨by omega, by omega, h3⟩
 have l1 := itm_len (v := v) f t
 have l2 := itm_len (v := v) t u
 unfold chain_Merge
 rw [right_eq (by have := mkS_len hv f t; omega), Option.bind_some, if_neg (by simpa using mkS_right hv hm h1), right_eq (by have := mkS_len hv t u; omega), Option.bind_some, Option.bind_some, if_neg (by simpa using mkS_right hv hm h2'), follows_eq hv hm h1 h2', Option.bind_some, if_neg (by simp)]
 show ((slices_Concat_Lapi_Item_api_Item [itm v t u, itm v f t]).bind _) = _
 rw [concat2 (by omega) (by omega), Option.bind_some]
 obtain ⟨L, e1, e2, e3, e4⟩ := sorted_eq (l := itm v t u ++ itm v f t) (by rw [List.length_append]; omega)
 have c1 : chkl (itm v t u ++ itm v f t).length L = some () := by unfold chkl; rw [if_pos e2]
 have hL : L.length ≤ 18 := by rw [e2, List.length_append]; omega
 obtain ⟨d1, _, d3⟩ := dd_fk e3 L.length (Nat.le_refl _)
 have hR : ddN L L.length = itm v f u := by
  refine sup_fk d1 (itm_sup f u) fun k => ?_
  rw [d3, List.take_length, e4]
  by_cases hk : k < 0
  ·rw [itm_fk_neg f u hk]
   have e : fk k (itm v t u ++ itm v f t) = fk k (itm v t u) ++ fk k (itm v f t) := List.filter_append ..
   rw [e, itm_fk_neg t u hk, itm_fk_neg f t hk]; rfl
  ·obtain ⟨n, rfl⟩ := Int.eq_ofNat_of_zero_le (show 0 ≤ k by omega)
   have e : fk (n : Int) (itm v t u ++ itm v f t) = fk (n : Int) (itm v t u) ++ fk (n : Int) (itm v f t) := List.filter_append ..
   rw [e, itm_fk, itm_fk, itm_fk, ch_split h1.le h2 h3]
   by_cases hn : n < v.Blocks.toNat
   ·cases c2 : ch v t u n
    ·cases c3 : ch v f t n
     ·simp
     ·have hw : wr v t (t + (u - t)) n = false := by
       rw [show t + (u - t) = u by omega]
       unfold ch at c2
       rw [Bool.or_eq_false_iff, Int.toNat_natCast] at c2
       exact c2.2
      have := state_same hv (u - t) (by omega) hw
      rw [show t + (u - t) = u by omega] at this
      rw [List.getD_eq_getElem?_getD, List.getD_eq_getElem?_getD] at this
      simp [hn, this]
    ·simp [hn]
   ·simp [hn]
 rw [e1, Option.bind_some, c1, Option.bind_some, compact_eq (by omega), Option.bind_some, hR, copied_eq (by have := itm_len (v := v) f u; omega) (fun x hx => by have := (itm_data hv h3 hx).1; omega), Option.bind_some]
 rfl
end
end Go.Proofs.Ytgdbmgnfaefhoaa.Am
namespace Go.Proofs.Ytgdbmgnfaefhoaa.Am
open Go
set_option linter.unusedVariables false
set_option linter.unusedSimpArgs false
set_option maxRecDepth 100000
theorem byt8 {l : List Int} (h : ∀ x ∈ l, Ik .u8 x) : Byt l := fun x hx => (h x hx).u8
abbrev Pr := Int × Nat
def mkP (v : Api_Volume) (q : Pr) : Api_Stream := mkS v q.1 q.2
def prs (f : Int) : List Nat → List Pr
 | [] => []
 | t :: ts => (f, t) :: prs t ts
theorem seg_prs (v : Api_Volume) : ∀ (ts : List Nat) (f : Int), seg v f ts = (prs f ts).map (mkP v)
 | [], _ => rfl
 | t :: ts, f => by simp only [seg, prs, List.map_cons, seg_prs v ts]; rfl
theorem prs_app : ∀ (xs ys : List Nat) (f : Int), prs f (xs ++ ys) = prs f xs ++ prs (lastT f xs) ys
 | [], _, _ => rfl
 | x :: xs, ys, f => by simp [prs, lastT, prs_app xs ys]
section
variable {m : Nat} {v : Api_Volume}
end
theorem known22 : mementolaw22_known = some true := by kernel_rfl
end Go.Proofs.Ytgdbmgnfaefhoaa.Am
namespace Go.Proofs.Ytgdbmgnfaefhoaa.Am
open Go
set_option linter.unusedVariables false
set_option linter.unusedSimpArgs false
set_option maxRecDepth 100000
theorem remK {a : Int} (ha : 0 ≤ a ∧ a < 256) {n : Nat} (hn : 1 ≤ n) (hn2 : n ≤ 100000) : ∃ k : Nat, k < n ∧ remI (IntKind.wrap .i64 a) (n : Int) = some (k : Int) := by
 rw [wrap64 (n := a) (by omega) (by omega)]
 unfold remI
 have q1 := Int.tmod_lt_of_pos a (show (0 : Int) < n by omega)
 have q2 := Int.tmod_nonneg (n : Int) ha.1
 rw [if_neg (by omega)]
 exact ⟨(Int.tmod a n).toNat, by omega, by rw [Int.toNat_of_nonneg q2]⟩
theorem split_at {α : Type} {l : List α} {k : Nat} (h : k < l.length) : ∃ xs x ys, l = xs ++ x :: ys ∧ xs.length = k := ⟨l.take k, l[k], l.drop (k + 1), by rw [List.getElem_cons_drop, List.take_append_drop], by rw [List.length_take]; omega⟩
theorem seg_app (v : Api_Volume) (xs ys : List Nat) (f : Int) : seg v f (xs ++ ys) = seg v f xs ++ seg v (lastT f xs) ys := by
 rw [seg_prs, prs_app, List.map_append, ← seg_prs, ← seg_prs]
theorem mon_app {W : Nat} : ∀ {xs ys : List Nat} {f : Int}, Mon W f (xs ++ ys) → Mon W f xs ∧ Mon W (lastT f xs) ys
 | [], _, _, h => ⟨trivial, h⟩
 | x :: xs, ys, f, h => by
  obtain ⟨h1, h2⟩ := mon_app (xs := xs) h.2.2
  exact ⟨⟨h.1, h.2.1, h1⟩, h2⟩
theorem over_L3 {s : Api_Stream} (hl : s.Items.length ≤ 1000) (k : Int) (w : List UInt8) (th : Bool) :
  loopN (mementolaw22_ChainOverrides_L3 k s) fuel (w, th, 0) = some (s.Items.foldl (fun p x => if x.Block == k then (strOf x.Data, true) else p) (w, th)) := by
 refine loop_eqF (s := (w, th, (0 : Int))) (fun q : List UInt8 × Bool × Int => ∃ i : Nat, i ≤ s.Items.length ∧ q = (((s.Items.take i).foldl (fun p x => if x.Block == k then (strOf x.Data, true) else p) (w, th)).1, ((s.Items.take i).foldl (fun p x => if x.Block == k then (strOf x.Data, true) else p) (w, th)).2, (i : Int))) (fun q => s.Items.length - q.2.2.toNat)
  (fun _ => s.Items.foldl (fun p x => if x.Block == k then (strOf x.Data, true) else p) (w, th)) ⟨0, by omega, rfl⟩ (by simp only; omega) ?_
 rintro _ ⟨i, hi, rfl⟩
 simp only [mementolaw22_ChainOverrides_L3]
 by_cases q : i < s.Items.length
 ·right
  rw [if_pos (by simpa using q), idx_at q, Option.bind_some, next3 (by omega)]
  have e : (s.Items.take (i + 1)).foldl (fun p x => if x.Block == k then (strOf x.Data, true) else p) (w, th) = if (s.Items[i].Block == k) = true then (strOf s.Items[i].Data, true) else (s.Items.take i).foldl (fun p x => if x.Block == k then (strOf x.Data, true) else p) (w, th) := by
   rw [List.take_succ_eq_append_getElem q, List.foldl_append]; rfl
  by_cases c : (s.Items[i].Block == k) = true
  ·rw [if_pos c] at e ⊢
   rw [Option.bind_some]
   exact ⟨_, rfl, ⟨i + 1, q, by rw [e]⟩, by simp only [Int.toNat_natCast]; omega, trivial⟩
  ·rw [if_neg c] at e ⊢
   rw [Option.bind_some]
   exact ⟨_, rfl, ⟨i + 1, q, by rw [e]⟩, by simp only [Int.toNat_natCast]; omega, trivial⟩
 ·left
  have : i = s.Items.length := by omega
  subst this
  rw [if_neg (by simp), List.take_length]; rfl
theorem fold_fk (k : Int) : ∀ (l : List Api_Item) (p : List UInt8 × Bool), l.foldl (fun p x => if x.Block == k then (strOf x.Data, true) else p) p = (fk k l).foldl (fun _ x => (strOf x.Data, true)) p
 | [], _ => rfl
 | x :: l, p => by
  rw [List.foldl_cons, fold_fk k l]
  unfold fk
  rw [List.filter_cons]
  split <;> rfl
section
variable {m : Nat} {v : Api_Volume}
theorem over_L2 (hv : VInv m v) (hm : m ≤ 1000) {f : Int} {t u k : Nat} (h1 : Ft v f t) (h2 : t ≤ u) (h3 : u ≤ v.Writes.length) (hk : k < v.Blocks.toNat) :
  loopN (mementolaw22_ChainOverrides_L2 (mkS v f t) (mkS v t u) (k : Int)) fuel ([], false, 0) = some (if ch v f u k = true then (strOf ((stateL v u).getD k []), true) else ([], false)) := by
 have l1 := mkS_len hv f t
 have l2 := mkS_len hv t u
 have i0 : idx ([mkS v f t, mkS v t u] : List Api_Stream) 0 = some (mkS v f t) := rfl
 have i1 : idx ([mkS v f t, mkS v t u] : List Api_Stream) 1 = some (mkS v t u) := rfl
 have r1 : ∀ w th, loopN (mementolaw22_ChainOverrides_L3 (k : Int) (mkS v f t)) fuel (w, th, 0) = some (if ch v f t k = true then (strOf ((stateL v t).getD k []), true) else (w, th)) := fun w th => by
  rw [over_L3 (by omega), fold_fk, show (mkS v f t).Items = itm v f t from rfl, itm_fk]
  cases ch v f t k <;> simp [hk]
 have r2 : ∀ w th, loopN (mementolaw22_ChainOverrides_L3 (k : Int) (mkS v t u)) fuel (w, th, 0) = some (if ch v t u k = true then (strOf ((stateL v u).getD k []), true) else (w, th)) := fun w th => by
  rw [over_L3 (by omega), fold_fk, show (mkS v t u).Items = itm v t u from rfl, itm_fk]
  cases ch v t u k <;> simp [hk]
 have hst : ch v t u k = false → (stateL v u).getD k [] = (stateL v t).getD k [] := fun c2 => by
  have hw : wr v t (t + (u - t)) k = false := by
   rw [show t + (u - t) = u by omega]
   unfold ch at c2
   rw [Bool.or_eq_false_iff, Int.toNat_natCast] at c2
   exact c2.2
  have := state_same hv (u - t) (by omega) hw
  rw [show t + (u - t) = u by omega] at this
  exact this
 have fin : (if ch v t u k = true then (strOf ((stateL v u).getD k []), true) else (if ch v f t k = true then (strOf ((stateL v t).getD k []), true) else (([] : List UInt8), false))) = (if ch v f u k = true then (strOf ((stateL v u).getD k []), true) else ([], false)) := by
  rw [ch_split h1.le h2 h3]
  cases c2 : ch v t u k
  ·rw [hst c2]; simp
  ·simp
 rw [← fin]
 refine loop_eqF (s := (([] : List UInt8), false, (0 : Int))) (fun q : List UInt8 × Bool × Int => q = ([], false, 0) ∨ q = ((if ch v f t k = true then (strOf ((stateL v t).getD k []), true) else (([] : List UInt8), false)).1, (if ch v f t k = true then (strOf ((stateL v t).getD k []), true) else (([] : List UInt8), false)).2, 1) ∨
  q = ((if ch v t u k = true then (strOf ((stateL v u).getD k []), true) else (if ch v f t k = true then (strOf ((stateL v t).getD k []), true) else (([] : List UInt8), false))).1, (if ch v t u k = true then (strOf ((stateL v u).getD k []), true) else (if ch v f t k = true then (strOf ((stateL v t).getD k []), true) else (([] : List UInt8), false))).2, 2)) (fun q => 2 - q.2.2.toNat) (fun _ => _) (.inl rfl) (by simp) ?_
 rintro _ (rfl | rfl | rfl)
 ·right
  simp only [mementolaw22_ChainOverrides_L2]
  rw [if_pos (by simp), i0, Option.bind_some, r1, Option.bind_some]
  exact ⟨_, rfl, .inr (.inl rfl), (show (2 - (IntKind.wrap .i64 (0 + 1)).toNat : Nat) < 2 - (0 : Int).toNat by decide), trivial⟩
 ·right
  simp only [mementolaw22_ChainOverrides_L2]
  rw [if_pos (by simp), i1, Option.bind_some, r2, Option.bind_some]
  exact ⟨_, rfl, .inr (.inr rfl), (show (2 - (IntKind.wrap .i64 (1 + 1)).toNat : Nat) < 2 - (1 : Int).toNat by decide), trivial⟩
 ·left
  simp only [mementolaw22_ChainOverrides_L2]
  rw [if_neg (by simp)]; rfl
end
theorem chainOverrides_eq {a0 a1 : List Int} {a2 : Int} (h0 : Byt a0) (h1 : Byt a1) (h2 : 0 ≤ a2 ∧ a2 < 256) : mementolaw22_ChainOverrides a0 a1 a2 = some true := by
 unfold mementolaw22_ChainOverrides
 rw [known22, Option.bind_some, if_neg (by simp)]
 by_cases c0 : (a0.length : Int) > 80
 ·rw [if_pos (by simpa using c0)]; rfl
 rw [if_neg (by simpa using c0)]
 by_cases c1 : (a1.length : Int) > 6
 ·rw [if_pos (by simpa using c1)]; rfl
 rw [if_neg (by simpa using c1), Option.bind_some]
 by_cases c2 : (a1.length : Int) < 2
 ·rw [if_pos (by simpa using c2)]
 rw [if_neg (by simpa using c2)]
 obtain ⟨v, ts, e1, hv, hf, e2, hmon⟩ := streams_ok (a0 := a0) (a1 := a1) (by omega) h0 (by omega) h1
 rw [e1, Option.bind_some]
 simp only
 have hsl : (seg v (-1) ts).length = ts.length := seg_len v ts (-1)
 obtain ⟨k, hk, ek⟩ := remK (a := a2) h2 (n := ts.length - 1) (by omega) (by omega)
 obtain ⟨xs, t, ys, rfl, hxs⟩ := split_at (show k < ts.length by omega)
 rw [List.length_append, List.length_cons] at e2 hsl hk
 obtain ⟨u, zs, rfl⟩ := List.exists_cons_of_ne_nil (show ys ≠ [] from fun h => by subst h; simp at hk; omega)
 obtain ⟨mx, mt, mt2, mu, mu2, _⟩ := mon_app hmon
 have hb := hv.blocks
 obtain ⟨f, hfe⟩ : ∃ f, lastT (-1) xs = f := ⟨_, rfl⟩
 rw [hfe] at mt
 have lf := (last_rng mx (by omega)).1
 rw [hfe] at lf
 have ft : Ft v f t := ⟨lf, mt, mt2⟩
 have es : seg v (-1) (xs ++ t :: u :: zs) = seg v (-1) xs ++ mkS v f t :: mkS v t u :: seg v u zs := by rw [seg_app, hfe]; rfl
 have el1 : (seg v (-1) xs).length = k := by rw [seg_len, hxs]
 have ix : idx (seg v (-1) (xs ++ t :: u :: zs)) (k : Int) = some (mkS v f t) := by rw [idx_nat, es, List.getElem?_append_right (by omega), el1, Nat.sub_self]; rfl
 have iy : idx (seg v (-1) (xs ++ t :: u :: zs)) ((k + 1 : Nat) : Int) = some (mkS v t u) := by rw [idx_nat, es, List.getElem?_append_right (by omega), el1, show k + 1 - k = 1 by omega]; rfl
 rw [hsl, wrap64 (n := ((xs.length + ((u :: zs).length + 1) : Nat) : Int) - 1) (by omega) (by omega), show ((xs.length + ((u :: zs).length + 1) : Nat) : Int) - 1 = ((xs.length + ((u :: zs).length + 1) - 1 : Nat) : Int) by omega]
 rw [List.length_append, List.length_cons] at ek
 rw [ek, Option.bind_some, next3 (by omega), wrap64 (n := ((k + 1 : Nat) : Int) - 1) (by omega) (by omega), show ((k + 1 : Nat) : Int) - 1 = (k : Int) by omega, ix, Option.bind_some, iy, Option.bind_some, merge_eq hv (by omega) ft (by omega) mu2, Option.bind_some]
 simp only
 rw [if_neg (by simp), if_neg (by simp [mkS]), show ((mkS v f u).To != (mkS v t u).To) = false by simp [mkS], Option.bind_some, if_neg (by simp)]
 obtain ⟨B, eB⟩ := Int.eq_ofNat_of_zero_le (show 0 ≤ v.Blocks by omega)
 have cnt : ∀ k, ((List.range k).filter (ch v f u)).length ≤ k := fun k => by have := List.length_filter_le (ch v f u) (List.range k); simpa using this
 have hilen : (mkS v f u).Items.length = ((List.range B).filter (ch v f u)).length := by show (itm v f u).length = _; unfold itm; rw [List.length_map, eB, Int.toNat_natCast]
 have L1 : loopN (mementolaw22_ChainOverrides_L1 (mkS v f t) (mkS v t u) (mkS v f u)) fuel (0, 0) = some (.go ((mkS v f u).Items.length : Int)) := by
  refine loop_eqF (fun q : Int × Int => ∃ k : Nat, k ≤ B ∧ q = ((((List.range k).filter (ch v f u)).length : Int), (k : Int))) (fun q => B - q.2.toNat) (fun _ => Ctl.go ((mkS v f u).Items.length : Int)) ⟨0, by omega, rfl⟩ (by simp only; omega) ?_
  rintro _ ⟨k, hk, rfl⟩
  simp only [mementolaw22_ChainOverrides_L1]
  by_cases q : k < B
  ·right
   have ck := cnt k
   rw [if_pos (by show decide ((k : Int) < v.Blocks) = true; rw [eB]; simpa using q), over_L2 hv (by omega) ft (by omega) mu2 (by omega), Option.bind_some]
   cases c : ch v f u k
   ·rw [if_neg (show ¬ (false = true) by simp)]
    simp only
    rw [if_pos (by simp), kont_go', next3 (by omega)]
    exact ⟨_, rfl, ⟨k + 1, q, by rw [List.range_succ, List.filter_append]; simp [c]⟩, by simp only [Int.toNat_natCast]; omega, trivial⟩
   ·have er : (List.range B).filter (ch v f u) = (List.range k).filter (ch v f u) ++ k :: ((List.range (B - k - 1)).map (k + 1 + ·)).filter (ch v f u) := by
     conv => lhs; rw [show B = k + 1 + (B - k - 1) by omega, List.range_add, List.range_succ, List.filter_append, List.filter_append]
     simp [c]
    have ei : idx (mkS v f u).Items ((((List.range k).filter (ch v f u)).length : Nat) : Int) = some ⟨(k : Int), (stateL v u).getD k []⟩ := by
     rw [idx_nat]
     show (itm v f u)[_]? = _
     unfold itm
     rw [List.getElem?_map, eB, Int.toNat_natCast, er, List.getElem?_append_right (Nat.le_refl _), Nat.sub_self]
     rfl
    have hlt : ((List.range k).filter (ch v f u)).length < (mkS v f u).Items.length := by rw [hilen, er, List.length_append, List.length_cons]; omega
    rw [if_pos rfl]
    simp only
    rw [if_neg (by simp), if_neg (by simp; omega), ei, Option.bind_some, if_neg (by simp), show (strOf ((stateL v u).getD k []) != strOf ((stateL v u).getD k [])) = false by simp, Option.bind_some, if_neg (by simp), kont_go', next3 (by omega), next3 (by omega)]
    exact ⟨_, rfl, ⟨k + 1, q, by rw [List.range_succ, List.filter_append]; simp [c]⟩, by simp only [Int.toNat_natCast]; omega, trivial⟩
  ·left
   have : k = B := by omega
   subst this
   rw [if_neg (by show ¬ (decide ((k : Int) < v.Blocks) = true); rw [eB]; simp), hilen]; rfl
 rw [L1, kont_go']
 simp
end Go.Proofs.Ytgdbmgnfaefhoaa.Am
