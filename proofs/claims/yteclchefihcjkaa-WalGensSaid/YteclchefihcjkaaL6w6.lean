/- Records of another time: the law. -/
import Derived.Test.YteclchefihcjkaaL6w4
import Derived.Test.YteclchefihcjkaaL6g
namespace Go.Proofs.Yteclchefihcjkaa.Am
open Go
set_option linter.unusedVariables false
set_option linter.unusedSimpArgs false
set_option maxRecDepth 100000

theorem known5 : mementolaw5_known = some true := by kernel_rfl
theorem bodies_self {l : List (List Int)} (h : l.length ≤ 1000) : mementohelp_Bodies l l = some true := by
  unfold mementohelp_Bodies
  rw [if_neg (by simp)]
  rw [loop_eqF (s := (0 : Int)) (fun s => ∃ k : Nat, k ≤ l.length ∧ s = (k : Int)) (fun s => l.length - s.toNat) (fun _ => .go ()) ⟨0, by omega, rfl⟩ (by simp; omega)]
  · rfl
  rintro _ ⟨k, hk, rfl⟩
  simp only [mementohelp_Bodies_L1]
  by_cases c : k < l.length
  · right
    rw [if_pos (by simpa using c), idx_at c, Option.bind_some, Option.bind_some, if_neg (by simp), next3 (by omega)]
    exact ⟨_, rfl, ⟨k + 1, c, rfl⟩, by simp only [Int.toNat_natCast]; omega, trivial⟩
  · left
    rw [if_neg (by simpa using c)]; rfl

def gN (n : Nat) : List Int := leB 8 n
theorem gN_len (n : Nat) : (gN n).length = 8 := leB_len 8 n
theorem gN_ne {x y : Nat} (hx : x < 18446744073709551616) (hy : y < 18446744073709551616) (h : x ≠ y) : (strOf (gN x) == strOf (gN y)) = false := by
  rw [beq_eq_false_iff_ne]
  intro e
  have := strOf_inj (leB_byt 8 x) (leB_byt 8 y) e
  have e2 := congrArg leV this
  rw [leV_leB 8 x (by omega), leV_leB 8 y (by omega)] at e2
  exact h e2

theorem sec1 (G : List Int) {b : List Int} (h : b.length ≤ 40) : secs G (recB b) = [sec G (recB b)] := by
  have hl := recB_len b
  unfold secs
  rw [if_neg (fun e => by have := congrArg List.length e; rw [hl] at this; simp at this), if_pos (by omega)]
theorem allS1 (G : List Int) : ∀ {l : List (List Int)}, (∀ b ∈ l, b.length ≤ 40) → allS G l = l.map fun b => sec G (recB b)
  | [], _ => rfl
  | b :: l, h => by
    have ih := allS1 G (l := l) fun x hx => h x (List.mem_cons_of_mem _ hx)
    have e : allS G (b :: l) = secs G (recB b) ++ allS G l := by simp [allS]
    rw [e, ih, sec1 G (h b (List.mem_cons_self ..))]; rfl

/-- Records set from the disk's beginning on. -/
theorem putGens {l : List (List Int)} {g : Nat} {d0 : Pdisk_Disk} (hl : l.length ≤ 6) (hb : ∀ b ∈ l, b.length ≤ 40) (h0 : DiskOk d0) (hn : d0.n = 60) (hp : d0.power = -1) (hdl : d0.l.length ≤ 20) :
    ∃ d, mementolaw5_WalGens_1 l (g : Int) d0 = some (true, d) ∧ DiskOk d ∧ d.n = 60 ∧ d.power = -1 ∧ d.l.length ≤ d0.l.length + 6 ∧ ∀ j : Nat, rdD d j = if h : j < l.length then sec (gN g) (recB l[j]) else rdD d0 j := by
  unfold mementolaw5_WalGens_1
  obtain ⟨t, ht, d, rfl, k⟩ := loop_QF (b := mementolaw5_WalGens_1_L1 l (g : Int)) (s := ((0 : Int), (0 : Int), d0))
    (fun s => ∃ (i : Nat) (d : Pdisk_Disk), i ≤ l.length ∧ s = ((i : Int), (i : Int), d) ∧ DiskOk d ∧ d.n = 60 ∧ d.power = -1 ∧ d.l.length ≤ d0.l.length + i ∧ ∀ j : Nat, rdD d j = if h : j < i ∧ j < l.length then sec (gN g) (recB (l[j]'h.2)) else rdD d0 j)
    (fun s => l.length - s.2.1.toNat) (fun t => ∃ d, t = .go d ∧ DiskOk d ∧ d.n = 60 ∧ d.power = -1 ∧ d.l.length ≤ d0.l.length + 6 ∧ ∀ j : Nat, rdD d j = if h : j < l.length then sec (gN g) (recB l[j]) else rdD d0 j)
    ⟨0, d0, by omega, rfl, h0, hn, hp, by omega, fun j => by rw [dif_neg (by omega)]⟩ (by simp only; omega) (by
    rintro _ ⟨i, d, hi, rfl, k1, k2, k3, k4, k5⟩
    simp only [mementolaw5_WalGens_1_L1]
    by_cases c : i < l.length
    · right
      have hbi := hb _ (List.getElem_mem c)
      have e1 := sec1 (gN g) hbi
      have ea := append_eq (n := 60) (i := i) (num_eq g) (gN_len g) k1 k3 (b := l[i]) (by omega) (by omega) (by rw [k2]; exact Int.le_refl _) (by rw [show leB 8 g = gN g from rfl, e1]; simp; omega)
      rw [show leB 8 g = gN g from rfl, e1, show ((60 : Nat) : Int) = 60 by rfl] at ea
      rw [if_pos (by simp; omega), idx_at c, Option.bind_some, ea, Option.bind_some]
      simp only
      rw [if_neg (by simp), next3 (by omega)]
      obtain ⟨q1, q2, q3, q4, q5, q6⟩ := wrAll_spec [sec (gN g) (recB l[i])] d i k1 k3 (by rw [k2]; simp; omega) (by simp; omega) (fun s hs => by simp at hs; subst hs; exact sec_len (gN_len g) _)
      refine ⟨_, rfl, ⟨i + 1, _, c, rfl, q1, q2.trans k2, q3, by rw [q5]; simp [wl]; omega, fun j => ?_⟩, by simp only [Int.toNat_natCast]; omega⟩
      rw [q6, k5]
      by_cases e : j = i
      · subst e
        rw [dif_pos (by simp), dif_pos (by omega)]
        simp
      · rw [dif_neg (by simp; omega)]
        by_cases e2 : j < i
        · rw [dif_pos (by omega), dif_pos (by omega)]
        · rw [dif_neg (by omega), dif_neg (by omega)]
    · left
      have : i = l.length := by omega
      subst this
      rw [if_neg (by simp)]
      exact ⟨_, rfl, d, rfl, k1, k2, k3, by omega, fun j => by
        rw [k5]
        by_cases e : j < l.length
        · rw [dif_pos ⟨e, e⟩, dif_pos e]
        · rw [dif_neg (by omega), dif_neg e]⟩)
  rw [ht]
  exact ⟨d, rfl, k⟩

/-! an empty sector -/
theorem one_Z0 {d : Pdisk_Disk} {j : Nat} (hj : j ≤ 50) {z : List Int} (hz : wal_part d j 0 = some (z, true)) (hz2 : z = List.replicate 48 0) : wal_one d j 60 0 = some ([], 0, false) := by
  subst hz2
  unfold wal_one
  rw [if_neg (by simp), decide_eq_false (by omega), Option.bind_some, if_neg (by simp), hz, Option.bind_some]
  simp only
  have e1 : pack_New (List.replicate 48 0) = some ⟨⟨List.replicate 48 0, 0⟩⟩ := by kernel_rfl
  have e2 : pack_Reader_Num ⟨⟨List.replicate 48 0, 0⟩⟩ 65535 = some (0, ⟨⟨List.replicate 47 0, 0⟩⟩) := by kernel_rfl
  have e3 : pack_rest_Left ⟨List.replicate 47 0, 0⟩ = some 47 := by kernel_rfl
  have e4 : pack_rest_Err ⟨List.replicate 47 0, 0⟩ = some 0 := rfl
  have e5 : IntKind.wrap .i64 ((IntKind.wrap .i64 ((IntKind.wrap .i64 (((List.replicate 48 (0 : Int)).length : Int) - 47)) + (IntKind.wrap .i64 0))) + 4) = 5 := by kernel_rfl
  have e6 : wal_sectors 5 = some 1 := by kernel_rfl
  have el : loopN (wal_one_L1 d j 0 (List.replicate 48 0) 0 47) fuel (List.replicate 48 0, 1) = some (.go (List.replicate 48 0)) := loopN_ret (n := 4611686018427387903) (by
    simp only [wal_one_L1]
    rw [e5]
    rfl)
  have s1 : slc (List.replicate 48 (0 : Int)) 0 5 = some [0, 0, 0, 0, 0] := by kernel_rfl
  have o1 : crc_Open [0, 0, 0, 0, 0] = some ([], false) := by kernel_rfl
  rw [if_neg (by simp), e1, Option.bind_some, e2, Option.bind_some]
  simp only
  rw [e3, Option.bind_some, e4, Option.bind_some, if_neg (by simp), e5, e6, Option.bind_some, wrap64 (n := (60 : Int) - j) (by omega) (by omega), decide_eq_false (by omega), Option.bind_some, if_neg (by simp), el, kont_go', s1, Option.bind_some, o1]
  rfl

theorem one_none {d : Pdisk_Disk} (hd : DiskOk d) (hn : d.n = 60) {g : Nat} (hg : g < 18446744073709551616) {j : Nat} (hj : j ≤ 50)
    (h : rdD d j = Z64 ∨ ∃ x t, x < 18446744073709551616 ∧ x ≠ g ∧ rdD d j = sec (gN x) t) : wal_one d j 60 g = some ([], 0, false) := by
  have hp := part_eq hd (j := j) (by omega) (num_eq g) (gN_len g)
  rcases h with h | ⟨x, t, hx, hne, h⟩
  · by_cases g0 : g = 0
    · subst g0
      rw [h] at hp
      have e1 : (strOf (Z64.take 8) == strOf (leB 8 0) && strOf (Z64.drop 56) == strOf (leB 8 0)) = true := by decide
      rw [e1] at hp
      simp only [if_true] at hp
      have e2 : (Z64.drop 8).take 48 = List.replicate 48 0 := by decide
      exact one_Z0 hj hp e2
    · rw [h] at hp
      have e0 : strOf (Z64.take 8) = strOf (gN 0) := by decide
      have e1 : (strOf (Z64.take 8) == strOf (leB 8 g)) = false := by
        rw [e0]
        exact gN_ne (by omega) hg (Ne.symm g0)
      rw [e1, Bool.false_and] at hp
      exact one_miss0 (n := 60) (by omega) fun _ => hp
  · rw [h] at hp
    have e0 : (sec (gN x) t).take 8 = gN x := by unfold sec; rw [List.append_assoc, List.take_append_of_le_length (by rw [gN_len]; omega), List.take_of_length_le (by rw [gN_len]; omega)]
    have e1 : (strOf ((sec (gN x) t).take 8) == strOf (leB 8 g)) = false := by
      rw [e0]; exact gN_ne hx hg hne
    rw [e1, Bool.false_and] at hp
    exact one_miss0 (n := 60) (by omega) fun _ => hp

theorem scanAll {d : Pdisk_Disk} (hd : DiskOk d) (hn : d.n = 60) {g : Nat} (hg : g < 18446744073709551616) {l : List (List Int)} (hl : l.length ≤ 6) (hb : ∀ b ∈ l, b.length ≤ 40)
    (h : ∀ j (hj : j < l.length), rdD d (j : Int) = sec (gN g) (recB l[j])) (he : rdD d (l.length : Int) = Z64 ∨ ∃ x t, x < 18446744073709551616 ∧ x ≠ g ∧ rdD d (l.length : Int) = sec (gN x) t) :
    wal_Scan d 0 60 g = some (l, (l.length : Int)) := by
  have ha := allS1 (gN g) hb
  have hal : (allS (gN g) l).length = l.length := by rw [ha, List.length_map]
  have hall : ∀ j (hj : j < (allS (gN g) l).length), rdD d (j : Int) = (allS (gN g) l)[j] := fun j hj => by
    simp only [ha, List.getElem_map]
    exact h j (by omega)
  obtain ⟨r, k1, k2, _, k4⟩ := scan_eq (su := 0) (bs := l) (n := 60) hd (by rw [hn]; exact Int.le_refl _) (by omega) (num_eq g) (gN_len g) (fun b hb' => by have := hb b hb'; omega) (by omega) (by rw [show leB 8 g = gN g from rfl]; omega)
    (fun j hj _ => hall j hj) (fun j hj => .inl (hall j hj)) (by
      rw [show leB 8 g = gN g from rfl, hal]
      exact one_none hd hn hg (by omega) he)
  have hr := k4 hall
  rw [hr, List.take_length] at k1
  have : stR (leB 8 g) l l.length = l.length := by
    unfold stR
    rw [List.take_length, show leB 8 g = gN g from rfl, hal]
  rw [this] at k1
  exact k1

theorem gensLoop {a0 a1 : List (List Int)} (h0 : a0.length ≤ 6) (h1 : a1.length ≤ 6) : ∃ t, loopN (mementolaw5_WalGens_L1 a0 a1) fuel 0 = some t ∧ (t = .ret true ∨ t = .go () ∧ ∀ b ∈ a0 ++ a1, b.length ≤ 40) := by
  have hlen : (a0 ++ a1).length = a0.length + a1.length := List.length_append
  refine loop_QF (fun s => ∃ i : Nat, i ≤ (a0 ++ a1).length ∧ s = (i : Int) ∧ ∀ b ∈ (a0 ++ a1).take i, b.length ≤ 40) (fun s => (a0 ++ a1).length - s.toNat) _ ⟨0, by omega, rfl, by simp⟩ (by simp; omega) ?_
  rintro _ ⟨i, hi, rfl, hb⟩
  simp only [mementolaw5_WalGens_L1]
  rw [wrap64 (n := (a0.length : Int) + (a1.length : Int)) (by omega) (by omega)]
  by_cases c : i < (a0 ++ a1).length
  · rw [if_pos (by simp; omega), app_of (by simp; omega) (by simp; omega), Option.bind_some, List.nil_append, app_of (by omega) (by omega), Option.bind_some, idx_at c, Option.bind_some]
    by_cases cb : (a0 ++ a1)[i].length ≤ 40
    · right
      rw [if_neg (by simp; omega), next3 (by omega)]
      refine ⟨_, rfl, ⟨i + 1, c, rfl, fun b hx => ?_⟩, by simp only [Int.toNat_natCast]; omega⟩
      rw [List.take_succ_eq_append_getElem c] at hx
      rcases List.mem_append.1 hx with h | h
      · exact hb b h
      · simp at h; rw [h]; exact cb
    · left
      rw [if_pos (by simp; omega)]
      exact ⟨_, rfl, .inl rfl⟩
  · left
    have : i = (a0 ++ a1).length := by omega
    subst this
    rw [if_neg (by simp)]
    rw [List.take_length] at hb
    exact ⟨_, rfl, .inr ⟨rfl, hb⟩⟩

theorem tot1 : ∀ {l : List (List Int)}, (∀ b ∈ l, b.length ≤ 40) → tot l = (l.length : Int) := by
  intro l h
  have : ∀ k, k ≤ l.length → tot (l.take k) = (k : Int) := fun k => by
    induction k with
    | zero => intro _; rfl
    | succ k ih =>
      intro hk
      rw [tot_take (show k < l.length by omega), ih (by omega)]
      have := h _ (List.getElem_mem (show k < l.length by omega))
      unfold nd kN
      rw [if_pos (by omega)]
      omega
  have q := this l.length (Nat.le_refl _)
  rw [List.take_length] at q
  exact q

theorem walGens_eq {a0 a1 : List (List Int)} {a2 a3 : Int} (h2 : Ik .u64 a2) (h3 : Ik .u64 a3) : mementolaw5_WalGens a0 a1 a2 a3 = some true := by
  unfold mementolaw5_WalGens
  rw [known5, Option.bind_some, if_neg (by simp)]
  by_cases c0 : (a0.length : Int) > 6
  · rw [if_pos (by simpa using c0)]; rfl
  rw [if_neg (by simpa using c0)]
  by_cases c1 : (a1.length : Int) > 6
  · rw [if_pos (by simpa using c1)]; rfl
  rw [if_neg (by simpa using c1), Option.bind_some]
  by_cases c2 : a2 = a3
  · rw [if_pos (by simpa using c2)]
  rw [if_neg (by simpa using c2), new3 (by omega), Option.bind_some]
  obtain ⟨t, ht, hq⟩ := gensLoop (a0 := a0) (a1 := a1) (by omega) (by omega)
  rw [ht]
  rcases hq with rfl | ⟨rfl, hb⟩
  · rfl
  rw [kont_go']
  have m2 : IntKind.u64.max = 18446744073709551615 := by decide
  have m1 : IntKind.u64.min = 0 := by decide
  have hx : 0 ≤ a2 ∧ a2 ≤ 18446744073709551615 := by obtain ⟨x, y⟩ := h2; exact ⟨by omega, by omega⟩
  have hy : 0 ≤ a3 ∧ a3 ≤ 18446744073709551615 := by obtain ⟨x, y⟩ := h3; exact ⟨by omega, by omega⟩
  obtain ⟨x, rfl⟩ := Int.eq_ofNat_of_zero_le hx.1
  obtain ⟨y, rfl⟩ := Int.eq_ofNat_of_zero_le hy.1
  have hxy : x ≠ y := fun e => c2 (by rw [e])
  have b0 : ∀ b ∈ a0, b.length ≤ 40 := fun b h => hb b (List.mem_append_left _ h)
  have b1 : ∀ b ∈ a1, b.length ≤ 40 := fun b h => hb b (List.mem_append_right _ h)
  obtain ⟨d, e1, d1, d2, d3, d4, d5⟩ := putGens (g := x) (d0 := ⟨60, [], [], [], -1⟩) (l := a0) (by omega) b0 (new3_ok (by omega)) rfl rfl (by simp)
  obtain ⟨D, f1, D1, D2, D3, D4, D5⟩ := putGens (g := y) (d0 := d) (l := a1) (by omega) b1 d1 d2 d3 (by simp at d4; omega)
  rw [e1, Option.bind_some]
  simp only
  rw [if_neg (by simp), f1, Option.bind_some, Option.bind_some]
  simp only
  rw [if_neg (by simp)]
  have hz : ∀ j : Nat, a0.length ≤ j → rdD d j = Z64 := fun j hj => by rw [d5, dif_neg (by omega)]; rfl
  have sy : wal_Scan D 0 60 y = some (a1, (a1.length : Int)) := by
    refine scanAll D1 D2 (by omega) (by omega) b1 (fun j hj => by rw [D5, dif_pos hj]) ?_
    rw [D5, dif_neg (by omega)]
    by_cases q : a1.length < a0.length
    · exact .inr ⟨x, _, by omega, hxy, by rw [d5, dif_pos q]⟩
    · exact .inl (hz _ (by omega))
  have sx : ∃ o, wal_Scan D 0 60 x = some (if a1.length = 0 then a0 else [], o) := by
    by_cases q : a1.length = 0
    · rw [if_pos q]
      have hD : ∀ j : Nat, rdD D j = rdD d j := fun j => by rw [D5, dif_neg (by omega)]
      exact ⟨_, scanAll D1 D2 (by omega) (by omega) b0 (fun j hj => by rw [hD, d5, dif_pos hj]) (.inl (by rw [hD]; exact hz _ (Nat.le_refl _)))⟩
    · rw [if_neg q]
      exact ⟨_, scanAll D1 D2 (by omega) (l := []) (by simp) (fun b h => by cases h) (fun j hj => absurd hj (by simp)) (.inr ⟨y, _, by omega, Ne.symm hxy, by
        have := D5 0
        rw [dif_pos (by omega)] at this
        exact this⟩)⟩
  obtain ⟨o, sx⟩ := sx
  rw [sy, Option.bind_some]
  simp only
  rw [sx, Option.bind_some]
  simp only
  rw [bodies_self (by omega), Option.bind_some, if_pos rfl, need_eq (by omega) (fun b h => by have := b1 b h; omega), Option.bind_some, tot1 b1, if_pos (by simp)]
  by_cases q : a1.length = 0
  · rw [if_neg (by simp only [decide_eq_true_eq]; omega), if_pos (by simp only [beq_iff_eq]; omega), if_pos q, bodies_self (by omega)]
    rfl
  · rw [if_pos (by simp only [decide_eq_true_eq]; omega), if_neg q]
    rfl
end Go.Proofs.Yteclchefihcjkaa.Am
