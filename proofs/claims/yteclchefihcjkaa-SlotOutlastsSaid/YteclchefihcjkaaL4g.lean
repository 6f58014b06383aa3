/- Slots on a disk: the law of a crash. -/
import Derived.Test.YteclchefihcjkaaL4f
namespace Go.Proofs.Yteclchefihcjkaa.Am
open Go
set_option linter.unusedVariables false
set_option linter.unusedSimpArgs false
set_option maxRecDepth 100000

theorem max0 (a : Nat) : (maxI (a : Int) 0).toNat = a := by unfold maxI; split <;> omega

section
variable {d : Pdisk_Disk} {c g r q : Nat} (h : DiskOk d) (n3 : d.n = 3) (hr : r ≤ 1) (hq : q ≤ 1) (hqe : IntKind.wrap .i64 (Int.tmod (c : Int) 2) = (q : Int))
include h n3 hr hq hqe
theorem set3_ok (hp : d.power = -1 ∨ d.power = 2) : slot_Set d ⟨c, g, r⟩ = some (0, flD (wrD d q (ptS c g r))) := by
  have hl := ptS_len c g r
  have hin : (0 : Int) ≤ q ∧ (q : Int) < d.n := by rw [n3]; omega
  have hw := wr_ok h hin (b := ptS c g r) (by omega)
  have pw2 : (wrD d q (ptS c g r)).power ≠ 0 := by
    unfold wrD dec
    simp only
    rcases hp with e | e <;> rw [e] <;> decide
  unfold slot_Set
  rw [put4_eq c g r (by omega), max0, Option.bind_some]
  dsimp only
  rw [hqe, write_eq h hin (by omega) (by rcases hp with e | e <;> rw [e] <;> decide), Option.bind_some]
  dsimp only
  rw [if_neg (by simp), flush_eq hw pw2]
  rfl
theorem set3_0 (hp : d.power = 0) : slot_Set d ⟨c, g, r⟩ = some (26, d) := by
  have hl := ptS_len c g r
  have hin : (0 : Int) ≤ q ∧ (q : Int) < d.n := by rw [n3]; omega
  unfold slot_Set
  rw [put4_eq c g r (by omega), max0, Option.bind_some]
  dsimp only
  rw [hqe, write_dead h hin (by omega) hp, Option.bind_some]
  rfl
theorem set3_1 (hp : d.power = 1) : slot_Set d ⟨c, g, r⟩ = some (26, wrD d q (ptS c g r)) := by
  have hl := ptS_len c g r
  have hin : (0 : Int) ≤ q ∧ (q : Int) < d.n := by rw [n3]; omega
  have hw := wr_ok h hin (b := ptS c g r) (by omega)
  have pw2 : (wrD d q (ptS c g r)).power = 0 := by unfold wrD dec; simp only; rw [hp]; decide
  unfold slot_Set
  rw [put4_eq c g r (by omega), max0, Option.bind_some]
  dsimp only
  rw [hqe, write_eq h hin (by omega) (by rw [hp]; decide), Option.bind_some]
  dsimp only
  rw [if_neg (by simp), flush_dead hw pw2]
  rfl
end

section
variable {S : List (List Int)} {p : Int} {c g r q : Nat} (hS : S.length = 3) (hr : r ≤ 1) (hq : q ≤ 1) (hqe : IntKind.wrap .i64 (Int.tmod (c : Int) 2) = (q : Int))
include hS hr hq hqe
theorem wset_ok (hp : p = -1 ∨ p = 2) : mementoref3_Set ⟨S, [], p⟩ ⟨c, g, r⟩ = some (0, ⟨S.set q (ptS c g r), [], wdec (wdec p)⟩) := by
  have hl := ptS_len c g r
  unfold mementoref3_Set
  rw [wput4_eq c g r (by omega), max0, Option.bind_some]
  dsimp only
  rw [hqe, wwrite_eq (by omega) (by omega) (by omega) hl, Option.bind_some]
  dsimp only
  rw [if_neg (by simp)]
  unfold mementoref3_Disk_Flush
  have h1 : wdec p ≠ 0 ∧ -1 ≤ wdec p ∧ wdec p ≤ 10 := by unfold wdec; rcases hp with rfl | rfl <;> decide
  rw [spend_eq h1.1 h1.2, Option.bind_some]
  dsimp only
  have := settle1 (S := S) (l0 := [⟨q, ptS c g r⟩]) (p := wdec (wdec p)) (i := q) (b := ptS c g r) (by omega) (by omega)
  simp only [Bool.not_true, Bool.false_eq_true, if_false, List.length_cons, List.length_nil, Nat.zero_add, Int.natCast_one, this, Option.bind_some]
theorem wset_0 (hp : p = 0) : mementoref3_Set ⟨S, [], p⟩ ⟨c, g, r⟩ = some (26, ⟨S, [], 0⟩) := by
  have hl := ptS_len c g r
  subst hp
  unfold mementoref3_Set
  rw [wput4_eq c g r (by omega), max0, Option.bind_some]
  dsimp only
  rw [hqe, wwrite_no (by omega) hl]
  rfl
theorem wset_1 (hp : p = 1) : mementoref3_Set ⟨S, [], p⟩ ⟨c, g, r⟩ = some (26, ⟨S, [⟨q, ptS c g r⟩], 0⟩) := by
  have hl := ptS_len c g r
  subst hp
  unfold mementoref3_Set
  rw [wput4_eq c g r (by omega), max0, Option.bind_some]
  dsimp only
  rw [hqe, wwrite_eq (by omega) (by omega) (by omega) hl]
  rfl
end

theorem choose_both {d : Pdisk_Disk} {S : List (List Int)} (h : DiskOk d) (n3 : d.n = 3) (hS : S.length = 3) (h0 : S[0]'(by omega) = rdD d 0) (h1 : S[1]'(by omega) = rdD d 1) (b0 : Byt (rdD d 0)) (b1 : Byt (rdD d 1))
    {s0 s1 : Slot_Slot} {o0 o1 : Bool} (e0 : slot_Read (rdD d 0) = some (s0, o0)) (e1 : slot_Read (rdD d 1) = some (s1, o1)) {s : Slot_Slot} {o : Bool} (hs : (if (o1 && (!o0 || decide (s1.Count > s0.Count))) = true then (s1, true) else (s0, o0)) = (s, o)) :
    slot_Choose d = some (s, o) ∧ mementoref3_Choose ⟨S, [], -1⟩ = some (⟨s.Count, s.Gen, s.Area⟩, o) := by
  obtain ⟨x0, y0, f0, w0⟩ := same_read b0
  obtain ⟨x1, y1, f1, w1⟩ := same_read b1
  rw [e0] at f0
  rw [e1] at f1
  cases f0
  cases f1
  have l0 := h.rd_len 0
  have l1 := h.rd_len 1
  have r0 := wread_eq (S := S) (p := -1) (i := 0) (by omega) (by rw [h0]; omega)
  have r1 := wread_eq (S := S) (p := -1) (i := 1) (by omega) (by rw [h1]; omega)
  rw [h0] at r0
  rw [h1] at r1
  unfold slot_Choose mementoref3_Choose
  rw [read_eq h (by rw [n3]; omega), read_eq h (by rw [n3]; omega)]
  rw [show mementoref3_Disk_Read ⟨S, [], -1⟩ 0 = some (rdD d 0) from r0, show mementoref3_Disk_Read ⟨S, [], -1⟩ 1 = some (rdD d 1) from r1]
  simp only [Option.bind_some, e0, e1, w0, w1]
  cases o1 <;> cases o0
  all_goals simp only [Bool.false_and, Bool.true_and, Bool.not_false, Bool.not_true, Bool.true_or, Bool.false_or, Bool.false_eq_true, if_true, if_false, Option.bind_some] at hs ⊢
  all_goals first
    | (cases hs; exact ⟨rfl, rfl⟩)
    | (by_cases hc : s1.Count > s0.Count
       · have ec : decide (s1.Count > s0.Count) = true := by simpa using hc
         simp only [ec, if_true] at hs ⊢
         cases hs; exact ⟨rfl, rfl⟩
       · have ec : decide (s1.Count > s0.Count) = false := by simpa using hc
         simp only [ec, Bool.false_eq_true, if_false] at hs ⊢
         cases hs; exact ⟨rfl, rfl⟩)

theorem cr_nil {d : Pdisk_Disk} (h : DiskOk d) (hl : d.l = []) (mask torn : Int) (j : Int) : rdD (crD d mask torn) j = sureD d j := by
  rw [rd_cr h]
  unfold crNow
  rw [hl]
  rfl
theorem cr_one {d : Pdisk_Disk} (h : DiskOk d) {w : Pdisk_write} (hl : d.l = [w]) (mask torn : Int) (j : Int) : rdD (crD d mask torn) j = if bitM mask 0 = true then (if w.i = j then (if 0 ≤ torn ∧ torn < 64 then w.b.take torn.toNat ++ (sureD d w.i).drop torn.toNat else w.b) else sureD d j) else sureD d j := by
  rw [rd_cr h]
  unfold crNow
  rw [hl]
  simp only [List.length_cons, List.length_nil, Nat.zero_add]
  cases hb : bitM mask 0 with
  | false =>
    have e : lastB mask 1 = -1 := by unfold lastB; rw [hb]; rfl
    rw [e]
    rfl
  | true =>
    have e : lastB mask 1 = 0 := by unfold lastB; rw [hb]; rfl
    rw [e, if_pos rfl]
    have e2 : [w].take ((0 : Int) + 1).toNat = [w] := rfl
    rw [e2]
    unfold cfold cfold cstep
    rw [if_pos hb, look_mset]
    by_cases hj : w.i = j
    · rw [if_pos hj, if_pos hj]
      have e3 : look [] w.i (look d.sure w.i Z64) = sureD d w.i := rfl
      rw [e3]
      by_cases ht : 0 ≤ torn ∧ torn < 64
      · rw [if_pos ht, if_pos ⟨rfl, ht⟩]
      · rw [if_neg ht, if_neg (fun x => ht x.2)]
    · rw [if_neg hj, if_neg hj]
      rfl

theorem Z64_byt : Byt Z64 := fun x hx => by unfold Z64 at hx; have := List.eq_of_mem_replicate hx; omega

/-- What is chosen at the end. -/
theorem pick_eq {d : Pdisk_Disk} {S : List (List Int)} (h : DiskOk d) (n3 : d.n = 3) (hS : S.length = 3) {qa qb ca cb ga gb ra rb : Nat} (hq : qa = 0 ∧ qb = 1 ∨ qa = 1 ∧ qb = 0) {X : List Int} (ra1 : rdD d qa = ptS ca ga ra) (rb1 : rdD d qb = X) (sa : S[qa]? = some (ptS ca ga ra)) (sb : S[qb]? = some X)
    (bX : Byt X) (hca : 0 < ca) (hc : ca < cb) (hcb : cb < 18446744073709551616) (hga : ga < 18446744073709551616) (hra : ra ≤ 1) {sx : Slot_Slot} {ok : Bool} (eX : slot_Read X = some (sx, ok)) (hX : ok = true → sx = ⟨cb, gb, rb⟩) :
    ∃ s : Slot_Slot, slot_Choose d = some (s, true) ∧ mementoref3_Choose ⟨S, [], -1⟩ = some (⟨s.Count, s.Gen, s.Area⟩, true) ∧ s = if ok = true then ⟨cb, gb, rb⟩ else ⟨ca, ga, ra⟩ := by
  have rp := read_pt (c := ca) (g := ga) (a := ra) hca (by omega) hga hra
  have bp := ptS_byt ca ga ra
  rcases hq with ⟨rfl, rfl⟩ | ⟨rfl, rfl⟩
  · have h0 : S[0]'(by omega) = rdD d 0 := by rw [List.getElem?_eq_getElem (by omega)] at sa; rw [Option.some.inj sa]; exact ra1.symm
    have h1 : S[1]'(by omega) = rdD d 1 := by rw [List.getElem?_eq_getElem (by omega)] at sb; rw [Option.some.inj sb]; exact rb1.symm
    have k0 : rdD d 0 = ptS ca ga ra := ra1
    have k1 : rdD d 1 = X := rb1
    cases ok with
    | true =>
      have hx := hX rfl
      subst hx
      obtain ⟨c1, c2⟩ := choose_both h n3 hS h0 h1 (k0 ▸ bp) (k1 ▸ bX) (by rw [k0]; exact rp) (by rw [k1]; exact eX) (s := ⟨cb, gb, rb⟩) (o := true) (by rw [if_pos (by simp; omega)])
      exact ⟨_, c1, c2, rfl⟩
    | false =>
      obtain ⟨c1, c2⟩ := choose_both h n3 hS h0 h1 (k0 ▸ bp) (k1 ▸ bX) (by rw [k0]; exact rp) (by rw [k1]; exact eX) (s := ⟨ca, ga, ra⟩) (o := true) (by rw [if_neg (by simp)])
      exact ⟨_, c1, c2, rfl⟩
  · have h1 : S[1]'(by omega) = rdD d 1 := by rw [List.getElem?_eq_getElem (by omega)] at sa; rw [Option.some.inj sa]; exact ra1.symm
    have h0 : S[0]'(by omega) = rdD d 0 := by rw [List.getElem?_eq_getElem (by omega)] at sb; rw [Option.some.inj sb]; exact rb1.symm
    have k1 : rdD d 1 = ptS ca ga ra := ra1
    have k0 : rdD d 0 = X := rb1
    cases ok with
    | true =>
      have hx := hX rfl
      subst hx
      obtain ⟨c1, c2⟩ := choose_both h n3 hS h0 h1 (k0 ▸ bX) (k1 ▸ bp) (by rw [k0]; exact eX) (by rw [k1]; exact rp) (s := ⟨cb, gb, rb⟩) (o := true) (by rw [if_neg (by simp; omega)])
      exact ⟨_, c1, c2, rfl⟩
    | false =>
      obtain ⟨c1, c2⟩ := choose_both h n3 hS h0 h1 (k0 ▸ bX) (k1 ▸ bp) (by rw [k0]; exact eX) (by rw [k1]; exact rp) (s := ⟨ca, ga, ra⟩) (o := true) (by rw [if_pos (by simp)])
      exact ⟨_, c1, c2, rfl⟩

theorem wnew_3 : mementoref3_NewDisk 3 = some ⟨[Z64, Z64, Z64], [], -1⟩ := by kernel_rfl

theorem set_some {S : List (List Int)} {q : Nat} {x : List Int} (h : q < S.length) : (S.set q x)[q]? = some x := by simp [h]
theorem set_other {S : List (List Int)} {q k : Nat} {x y : List Int} (h : S[k]? = some y) (hk : q ≠ k) : (S.set q x)[k]? = some y := by rw [List.getElem?_set_ne hk]; exact h

end Go.Proofs.Yteclchefihcjkaa.Am
