/- Records on a disk: written, flushed, what a crash leaves of them. -/
import Derived.Test.YteclchefihcjkaaL6w2
namespace Go.Proofs.Yteclchefihcjkaa.Am
open Go
set_option linter.unusedVariables false
set_option linter.unusedSimpArgs false
set_option maxRecDepth 100000

/-- Writes of sectors, one behind another. -/
def wl (i : Nat) : List (List Int) → List Pdisk_write
  | [] => []
  | s :: r => ⟨(i : Int), s⟩ :: wl (i + 1) r
theorem wl_len : ∀ (i : Nat) (l : List (List Int)), (wl i l).length = l.length
  | _, [] => rfl
  | i, s :: r => by rw [wl, List.length_cons, wl_len, List.length_cons]
theorem wl_append : ∀ (i : Nat) (a b : List (List Int)), wl i (a ++ b) = wl i a ++ wl (i + a.length) b
  | i, [], b => rfl
  | i, s :: r, b => by
    rw [List.cons_append, wl, wl, wl_append, List.length_cons, List.cons_append, show i + 1 + r.length = i + (r.length + 1) by omega]
theorem wl_mem : ∀ {i : Nat} {l : List (List Int)} {w : Pdisk_write}, w ∈ wl i l → ∃ j, ∃ h : j < l.length, w.i = ((i + j : Nat) : Int) ∧ w.b = l[j]
  | i, [], w, h => by cases h
  | i, s :: r, w, h => by
    rw [wl] at h
    rcases List.mem_cons.1 h with rfl | h
    · exact ⟨0, by simp, rfl, rfl⟩
    · obtain ⟨j, hj, e1, e2⟩ := wl_mem h
      exact ⟨j + 1, by simpa using hj, by rw [e1]; congr 1; omega, by rw [e2]; rfl⟩
theorem wl_pair : ∀ (i : Nat) (l : List (List Int)), (wl i l).Pairwise fun x y => x.i ≠ y.i
  | _, [] => .nil
  | i, s :: r => by
    rw [wl]
    refine .cons (fun w hw => ?_) (wl_pair _ _)
    obtain ⟨j, hj, e1, _⟩ := wl_mem hw
    rw [e1]
    simp only
    omega

theorem pad64' {s : List Int} (h : s.length = 64) : pad s = s := by unfold pad; rw [show 64 - s.length = 0 by omega]; simp

theorem wrAll_spec : ∀ (l : List (List Int)) (d : Pdisk_Disk) (i : Nat), DiskOk d → d.power = -1 → ((i + l.length : Nat) : Int) ≤ d.n → d.l.length + l.length ≤ 64 → (∀ s ∈ l, s.length = 64) →
    DiskOk (wrAll d i l) ∧ (wrAll d i l).n = d.n ∧ (wrAll d i l).power = -1 ∧ (wrAll d i l).sure = d.sure ∧ (wrAll d i l).l = d.l ++ wl i l ∧
      ∀ j : Nat, rdD (wrAll d i l) j = if h : i ≤ j ∧ j < i + l.length then l[j - i]'(by omega) else rdD d j
  | [], d, i, hd, hp, hn, hl, hs => ⟨hd, rfl, hp, rfl, by simp [wrAll, wl], fun j => by rw [dif_neg (by simp)]; rfl⟩
  | s :: r, d, i, hd, hp, hn, hl, hs => by
    rw [List.length_cons] at hn hl
    have h64 := hs s (List.mem_cons_self ..)
    have hd1 : DiskOk (wrD d i s) := wr_ok hd ⟨by omega, by omega⟩ (by omega)
    have e0 : (wrD d i s).l = d.l ++ [⟨(i : Int), s⟩] := by unfold wrD; simp only; rw [if_pos (by omega), pad64' h64]
    obtain ⟨k1, k2, k3, k4, k5, k6⟩ := wrAll_spec r (wrD d i s) (i + 1) hd1 (by unfold wrD dec; simp only; rw [hp]; rfl) (by show _ ≤ d.n; omega) (by rw [e0]; simp; omega) (fun x hx => hs x (List.mem_cons_of_mem _ hx))
    refine ⟨k1, k2, k3, k4, ?_, fun j => ?_⟩
    · show (wrAll (wrD d i s) (i + 1) r).l = _
      rw [k5, e0, wl, List.append_assoc]; rfl
    · show rdD (wrAll (wrD d i s) (i + 1) r) j = _
      rw [k6, rd_wr, pad64' h64]
      by_cases c : i ≤ j ∧ j < i + (s :: r).length
      · rw [dif_pos c]
        rw [List.length_cons] at c
        by_cases c1 : i = j
        · subst c1
          rw [dif_neg (by omega), if_pos rfl]
          simp
        · rw [dif_pos (by omega)]
          obtain ⟨m, hm⟩ : ∃ m, j - i = m + 1 := ⟨j - i - 1, by omega⟩
          have : j - (i + 1) = m := by omega
          simp only [hm, this, List.getElem_cons_succ]
      · rw [dif_neg c]
        rw [List.length_cons] at c
        rw [dif_neg (by omega), if_neg (by omega)]

/-! a crash -/
theorem cfold_look (sure : Sec) (mask torn last : Int) : ∀ (r : List Pdisk_write) (i : Nat) (now : Sec), r.Pairwise (fun x y => x.i ≠ y.i) → (∀ w ∈ r, mget now w.i = none) → ∀ j : Int,
    look (cfold sure mask torn last r i now) j (look sure j Z64) = look now j (look sure j Z64) ∨
      ∃ w ∈ r, w.i = j ∧ (look (cfold sure mask torn last r i now) j (look sure j Z64) = w.b ∨ ∃ t : Nat, t < 64 ∧ look (cfold sure mask torn last r i now) j (look sure j Z64) = w.b.take t ++ (look sure j Z64).drop t)
  | [], i, now, _, _, j => .inl rfl
  | w :: r, i, now, hp, hn, j => by
    rw [List.pairwise_cons] at hp
    have hw := hn w (List.mem_cons_self ..)
    rw [cfold]
    have key : (∀ x ∈ r, mget (cstep sure mask torn last now i w) x.i = none) ∧ (look (cstep sure mask torn last now i w) j (look sure j Z64) = look now j (look sure j Z64) ∨ w.i = j ∧ (look (cstep sure mask torn last now i w) j (look sure j Z64) = w.b ∨ ∃ t : Nat, t < 64 ∧ look (cstep sure mask torn last now i w) j (look sure j Z64) = w.b.take t ++ (look sure j Z64).drop t)) := by
      unfold cstep
      split
      · refine ⟨fun x hx => by rw [mget_mset, if_neg (hp.1 x hx)]; exact hn x (List.mem_cons_of_mem _ hx), ?_⟩
        rw [look_mset]
        by_cases e : w.i = j
        · rw [if_pos e]
          refine .inr ⟨e, ?_⟩
          split
          · rename_i hc
            refine .inr ⟨torn.toNat, by omega, ?_⟩
            have : look now w.i (look sure w.i Z64) = look sure w.i Z64 := by
              show (mget now w.i).getD _ = _
              rw [hw]; rfl
            rw [this, e]
          · exact .inl rfl
        · rw [if_neg e]; exact .inl rfl
      · exact ⟨fun x hx => hn x (List.mem_cons_of_mem _ hx), .inl rfl⟩
    rcases cfold_look sure mask torn last r (i + 1) _ hp.2 key.1 j with h | ⟨x, hx, e1, e2⟩
    · rw [h]
      rcases key.2 with k | ⟨k1, k2⟩
      · exact .inl k
      · exact .inr ⟨w, List.mem_cons_self .., k1, k2⟩
    · exact .inr ⟨x, List.mem_cons_of_mem _ hx, e1, e2⟩

/-! what a disk with records is -/
structure St (d : Pdisk_Disk) (n su : Nat) (cs : List (List Int)) : Prop where
  ok : DiskOk d
  nn : d.n = (n : Int)
  p : d.power = -1
  sl : su ≤ cs.length
  len : cs.length ≤ n
  c64 : ∀ s ∈ cs, s.length = 64
  sure : ∀ j : Nat, sureD d j = if h : j < su then cs[j]'(by omega) else Z64
  rd : ∀ j : Nat, rdD d j = if h : j < cs.length then cs[j] else Z64
  l : d.l = wl su (cs.drop su)

theorem St.new {n : Nat} (h : n ≤ 1000) : St ⟨(n : Int), [], [], [], -1⟩ n 0 [] :=
  ⟨new3_ok (by omega), rfl, rfl, by simp, by simp, fun s hs => (by cases hs), fun j => rfl, fun j => rfl, rfl⟩
theorem St.write {d : Pdisk_Disk} {n su : Nat} {cs l : List (List Int)} (h : St d n su cs) (hl : cs.length + l.length ≤ n) (h64 : cs.length - su + l.length ≤ 64) (hs : ∀ s ∈ l, s.length = 64) : St (wrAll d cs.length l) n su (cs ++ l) := by
  have hdl : d.l.length = cs.length - su := by rw [h.l, wl_len, List.length_drop]
  obtain ⟨k1, k2, k3, k4, k5, k6⟩ := wrAll_spec l d cs.length h.ok h.p (by rw [h.nn]; omega) (by omega) hs
  refine ⟨k1, k2.trans h.nn, k3, by rw [List.length_append]; have := h.sl; omega, by rw [List.length_append]; exact hl, fun s hx => (List.mem_append.1 hx).elim (h.c64 s) (hs s), fun j => ?_, fun j => ?_, ?_⟩
  · have : sureD (wrAll d cs.length l) j = sureD d j := by unfold sureD; rw [k4]
    rw [this, h.sure]
    split
    · rename_i hj; rw [List.getElem_append_left (by have := h.sl; omega)]
    · rfl
  · rw [k6]
    by_cases c : cs.length ≤ j ∧ j < cs.length + l.length
    · rw [dif_pos c, dif_pos (by rw [List.length_append]; omega), List.getElem_append_right c.1]
    · rw [dif_neg c, h.rd]
      by_cases c2 : j < cs.length
      · rw [dif_pos c2, dif_pos (by rw [List.length_append]; omega), List.getElem_append_left c2]
      · rw [dif_neg c2, dif_neg (by rw [List.length_append]; omega)]
  · rw [k5, h.l, List.drop_append_of_le_length h.sl, wl_append, List.length_drop, show su + (cs.length - su) = cs.length by have := h.sl; omega]
theorem St.flush {d : Pdisk_Disk} {n su : Nat} {cs : List (List Int)} (h : St d n su cs) : St (flD d) n cs.length cs := by
  refine ⟨fl_ok h.ok, h.nn, by unfold flD dec; simp only; rw [h.p]; rfl, Nat.le_refl _, h.len, h.c64, fun j => ?_, fun j => ?_, by rw [List.drop_length]; rfl⟩
  · have : sureD (flD d) j = rdD (flD d) j := rfl
    rw [this, rd_fl h.ok, h.rd]
  · rw [rd_fl h.ok, h.rd]

theorem St.crash {d : Pdisk_Disk} {n su : Nat} {cs : List (List Int)} (h : St d n su cs) (mask torn : Int) (j : Nat) :
    (rdD (crD d mask torn) j = if hj : j < su then cs[j]'(by have := h.sl; omega) else Z64) ∨
      ∃ hj : j < cs.length, su ≤ j ∧ (rdD (crD d mask torn) j = cs[j] ∨ ∃ t : Nat, t < 64 ∧ rdD (crD d mask torn) j = cs[j].take t ++ Z64.drop t) := by
  rw [rd_cr h.ok]
  have hs := h.sure j
  unfold crNow
  have hp : (d.l.take (lastB mask d.l.length + 1).toNat).Pairwise fun x y => x.i ≠ y.i := by
    rw [h.l]
    exact (wl_pair _ _).sublist (List.take_sublist _ _)
  rcases cfold_look d.sure mask torn (lastB mask d.l.length) _ 0 [] hp (fun w _ => rfl) (j : Int) with e | ⟨w, hw, e1, e2⟩
  · left
    have e3 : look ([] : Sec) (j : Int) (look d.sure (j : Int) Z64) = sureD d j := rfl
    rw [e3] at e
    exact e.trans hs
  · right
    have hw2 := List.mem_of_mem_take hw
    rw [h.l] at hw2
    obtain ⟨m, hm, f1, f2⟩ := wl_mem hw2
    rw [List.length_drop] at hm
    have ej : j = su + m := by rw [f1] at e1; omega
    subst ej
    refine ⟨by omega, by omega, ?_⟩
    rw [List.getElem_drop] at f2
    have hz : look d.sure (((su + m : Nat)) : Int) Z64 = Z64 := by
      have : sureD d ((su + m : Nat) : Int) = look d.sure (((su + m : Nat)) : Int) Z64 := rfl
      rw [← this, hs, dif_neg (by omega)]
    rw [f2, hz] at e2
    have : sureD d ((su + m : Nat) : Int) = Z64 := hz
    rw [this]
    exact e2
end Go.Proofs.Yteclchefihcjkaa.Am
