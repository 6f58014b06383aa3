/- Two disks that hold the same; records set to both. -/
import Derived.Test.YteclchefihcjkaaL11d
namespace Go.Proofs.Yteclchefihcjkaa.Am
open Go
set_option linter.unusedVariables false
set_option linter.unusedSimpArgs false
set_option maxRecDepth 100000

theorem sector_eq {b : List Int} (h : b.length ≤ 64) : mementoref3_sector b = some (pad b) := by
  unfold mementoref3_sector
  rw [app_of (by simp; omega) (by simp; omega), Option.bind_some, List.nil_append]
  rw [loop_eqF (s := b) (fun s => ∃ m, b.length + m ≤ 64 ∧ s = b ++ List.replicate m 0) (fun s => 64 - s.length) (fun _ => pad b) ⟨0, by omega, by simp⟩ (by omega)]
  · rfl
  rintro _ ⟨m, hm, rfl⟩
  simp only [mementoref3_sector_L1]
  have hlm : (b ++ List.replicate m (0 : Int)).length = b.length + m := by simp
  rw [hlm]
  by_cases c : b.length + m < 64
  · right
    rw [if_pos (by simp; omega), app_of (by rw [hlm]; simp; omega) (by rw [hlm]; simp; omega), Option.bind_some]
    exact ⟨_, rfl, ⟨m + 1, by omega, by rw [List.append_assoc, ← List.replicate_succ']⟩, by simp; omega, trivial⟩
  · left
    rw [if_neg (by simp; omega)]
    unfold pad
    rw [show m = 64 - b.length by omega]
    rfl

/-- What the document's disk has now of a sector. -/
def rwL (z : List Int) (l : List Mementoref3_write) (i : Int) : List Int := l.foldl (fun b x => if x.i == i then x.b else b) z
theorem rwL_snoc (z : List Int) (l : List Mementoref3_write) (x : Mementoref3_write) (i : Int) : rwL z (l ++ [x]) i = if x.i == i then x.b else rwL z l i := by unfold rwL; rw [List.foldl_append]; rfl

structure Rel (d : Pdisk_Disk) (w : Mementoref3_Disk) : Prop where
  ok : DiskOk d
  nn : d.n = 20
  p : d.power = -1
  sl : w.S.length = 20
  left : w.left = -1
  rd : ∀ i : Nat, i < 20 → rwL (w.S.getD i []) w.l (i : Int) = rdD d i
  byt : ∀ i : Nat, i < 20 → Byt (rdD d i)

theorem refRead {d : Pdisk_Disk} {w : Mementoref3_Disk} (h : Rel d w) (hw : w.l.length ≤ 10000) {i : Nat} (hi : i < 20) : mementoref3_Disk_Read w (i : Int) = some (rdD d i) := by
  unfold mementoref3_Disk_Read
  have hl := h.ok.rd_len (i : Int)
  rw [if_neg (by simp), h.sl, decide_eq_false (by omega), Option.bind_some, if_neg (by simp), idx_at (by rw [h.sl]; exact hi), Option.bind_some]
  have hg : w.S.getD i [] = w.S[i]'(by rw [h.sl]; exact hi) := by rw [List.getD_eq_getElem?_getD, List.getElem?_eq_getElem (by rw [h.sl]; exact hi)]; rfl
  rw [← hg, loop_eqF (s := (w.S.getD i [], (0 : Int))) (fun s => ∃ k : Nat, k ≤ w.l.length ∧ s = (rwL (w.S.getD i []) (w.l.take k) i, (k : Int))) (fun s => w.l.length - s.2.toNat) (fun _ => rwL (w.S.getD i []) w.l i) ⟨0, by omega, rfl⟩ (by simp; omega)]
  · rw [h.rd i hi, Option.bind_some, app_of (by simp; omega) (by simp; omega)]
    rfl
  rintro _ ⟨k, hk, rfl⟩
  simp only [mementoref3_Disk_Read_L1]
  by_cases c : k < w.l.length
  · right
    have e : (if w.l[k].i == (i : Int) then some w.l[k].b else some (rwL (w.S.getD i []) (w.l.take k) i)) = some (rwL (w.S.getD i []) (w.l.take (k + 1)) i) := by
      rw [List.take_succ_eq_append_getElem c, rwL_snoc]
      split <;> rfl
    rw [if_pos (by simpa using c), idx_at c, Option.bind_some, e, Option.bind_some, next3 (by omega)]
    exact ⟨_, rfl, ⟨k + 1, c, rfl⟩, by simp only [Int.toNat_natCast]; omega, trivial⟩
  · left
    have : k = w.l.length := by omega
    subst this
    rw [if_neg (by simp), List.take_length]
    rfl
/-! writes -/
theorem rel_write {d : Pdisk_Disk} {w : Mementoref3_Disk} (h : Rel d w) (hw : w.l.length ≤ 10000) {i : Nat} (hi : i < 20) {b : List Int} (hb : b.length ≤ 64) (hbb : Byt b) :
    pdisk_Disk_Write d i b = some (0, wrD d i b) ∧ mementoref3_Disk_Write w i b = some (0, ⟨w.S, w.l ++ [⟨i, pad b⟩], -1⟩) ∧ Rel (wrD d i b) ⟨w.S, w.l ++ [⟨i, pad b⟩], -1⟩ := by
  have hin : (0 : Int) ≤ i ∧ (i : Int) < d.n := by rw [h.nn]; omega
  refine ⟨write_eq h.ok hin hb (by rw [h.p]; decide), ?_, wr_ok h.ok hin hb, h.nn, by unfold wrD dec; simp only; rw [h.p]; rfl, h.sl, rfl, fun j hj => ?_, fun j hj => ?_⟩
  · unfold mementoref3_Disk_Write mementoref3_Disk_spend
    rw [if_neg (by simp), h.sl, decide_eq_false (by omega), Option.bind_some, if_neg (by simp), if_neg (by simp; omega), h.left, if_pos (by simp), Option.bind_some]
    simp only
    rw [if_neg (by simp), app_of (by simp; omega) (by simp; omega), Option.bind_some, sector_eq hb, Option.bind_some, List.nil_append, app_of (by simp; omega) (by simp; omega), Option.bind_some, h.left]
  · simp only
    rw [rwL_snoc, rd_wr]
    by_cases e : i = j
    · subst e; simp
    · rw [if_neg (by simp; omega), if_neg (by omega)]
      exact h.rd j hj
  · rw [rd_wr]
    split
    · exact hbb.app fun x hx => by have := (List.mem_replicate.1 hx).2; omega
    · exact h.byt j hj
theorem rel_write_out {d : Pdisk_Disk} {w : Mementoref3_Disk} (h : Rel d w) {i : Nat} (hi : 20 ≤ i) {b : List Int} : pdisk_Disk_Write d i b = some (25, d) ∧ mementoref3_Disk_Write w i b = some (25, w) := by
  refine ⟨write_sec (by rw [h.nn]; omega), ?_⟩
  unfold mementoref3_Disk_Write
  rw [if_neg (by simp), h.sl, decide_eq_true (by omega)]
  rfl

def wl' (i : Nat) : List (List Int) → List Mementoref3_write
  | [] => []
  | s :: r => ⟨(i : Int), s⟩ :: wl' (i + 1) r
theorem wl'_len : ∀ (i : Nat) (l : List (List Int)), (wl' i l).length = l.length
  | _, [] => rfl
  | i, s :: r => by rw [wl', List.length_cons, wl'_len, List.length_cons]
theorem wl'_snoc : ∀ (i : Nat) (l : List (List Int)) (s : List Int), wl' i (l ++ [s]) = wl' i l ++ [⟨((i + l.length : Nat) : Int), s⟩]
  | i, [], s => rfl
  | i, x :: r, s => by
    rw [List.cons_append, wl', wl', wl'_snoc, List.length_cons, List.cons_append]
    congr 5
    omega
def wAll (w : Mementoref3_Disk) (i : Nat) (l : List (List Int)) : Mementoref3_Disk := ⟨w.S, w.l ++ wl' i l, w.left⟩
theorem wAll_snoc (w : Mementoref3_Disk) (i : Nat) (l : List (List Int)) (s : List Int) : wAll w i (l ++ [s]) = ⟨w.S, (wAll w i l).l ++ [⟨((i + l.length : Nat) : Int), s⟩], w.left⟩ := by
  unfold wAll; rw [wl'_snoc, List.append_assoc]
theorem wrAll_snoc : ∀ (l : List (List Int)) (d : Pdisk_Disk) (i : Nat) (s : List Int), wrAll d i (l ++ [s]) = wrD (wrAll d i l) ((i + l.length : Nat) : Int) s
  | [], d, i, s => rfl
  | x :: r, d, i, s => by
    rw [List.cons_append, wrAll, wrAll, wrAll_snoc, List.length_cons]
    congr 1
    omega
theorem pad64' {s : List Int} (h : s.length = 64) : pad s = s := by unfold pad; rw [show 64 - s.length = 0 by omega]; simp

/-- Sectors set to both, as many as there are. -/
theorem rel_all {d : Pdisk_Disk} {w : Mementoref3_Disk} (h : Rel d w) (hw : w.l.length ≤ 9000) {G t : List Int} (hG : G.length = 8) (hGb : Byt G) (ht : Byt t) {i : Nat} : ∀ {k : Nat}, (k = 0 ∨ i + k ≤ 20) → Rel (wrAll d i (secsK G t k)) (wAll w i (secsK G t k))
  | 0, _ => by
    have : wAll w i (secsK G t 0) = w := by unfold wAll; simp [secsK, wl']
    rw [this]
    exact h
  | k + 1, hk => by
    have ih := rel_all h hw hG hGb ht (i := i) (k := k) (.inr (by omega))
    have hs := sec_len hG (t.drop (48 * k))
    have hl : (wAll w i (secsK G t k)).l.length ≤ 10000 := by unfold wAll; simp only [List.length_append, wl'_len, secsK_len]; omega
    obtain ⟨_, _, r⟩ := rel_write ih hl (i := i + k) (by omega) (b := sec G (t.drop (48 * k))) (by omega) (sec_byt hGb (ht.drop _))
    rw [pad64' hs] at r
    rw [secsK_succ, wrAll_snoc, wAll_snoc, secsK_len, h.left]
    exact r

theorem appC {g : Int} {G : List Int} (hg : wal_num g = some G) (hG : G.length = 8) (hGb : Byt G) {d : Pdisk_Disk} {w : Mementoref3_Disk} (h : Rel d w) (hw : w.l.length ≤ 9000) {i : Nat} {t : List Int} (htb : Byt t) (ht : t.length ≤ 400) (ht0 : 0 < t.length) (hi : i ≤ 40) :
    loopN (wal_Append_L1 g) fuel ((i : Int), t, d) = some (if i + (t.length + 47) / 48 ≤ 20 then Ctl.go (((i + (t.length + 47) / 48 : Nat) : Int), wrAll d i (secsK G t ((t.length + 47) / 48))) else Ctl.ret ((0 : Int), (25 : Int), wrAll d i (secsK G t (20 - i)))) := by
  refine loop_eqF (s := ((i : Int), t, d)) (fun s => ∃ j : Nat, j ≤ (t.length + 47) / 48 ∧ (j = 0 ∨ i + j ≤ 20) ∧ s = (((i + j : Nat) : Int), t.drop (48 * j), wrAll d i (secsK G t j))) (fun s => s.2.1.length) (fun _ => _) ⟨0, by omega, .inl rfl, rfl⟩ (by simp only; omega) ?_
  rintro _ ⟨j, hj, hj2, rfl⟩
  have hr := rel_all h hw hG hGb htb (i := i) (k := j) hj2
  simp only [wal_Append_L1]
  by_cases c : j < (t.length + 47) / 48
  · have hl : (t.drop (48 * j)).length = t.length - 48 * j := List.length_drop
    have e1 : slc (t.drop (48 * j)) ((min (t.drop (48 * j)).length (List.replicate 48 (0 : Int)).length : Nat) : Int) ((t.drop (48 * j)).length : Int) = some (t.drop (48 * (j + 1))) := by
      rw [slc_nat _ (by omega) (by omega), List.take_length, List.length_replicate, List.drop_drop]
      by_cases q : (t.drop (48 * j)).length ≤ 48
      · rw [Nat.min_eq_left q, List.drop_eq_nil_of_le (by omega), List.drop_eq_nil_of_le (by omega)]
      · rw [Nat.min_eq_right (by omega)]
        congr 2
    have hs := sec_len hG (t.drop (48 * j))
    have hp := p48_len (t.drop (48 * j))
    have e2 : pack_Join [G, p48 (t.drop (48 * j)), G] = some (sec G (t.drop (48 * j))) := by
      rw [join_eq (by simp) (by simp [hG, hp])]
      simp [sec]
    rw [if_pos (by simp; omega), mks48, Option.bind_some, e1, Option.bind_some, hg, Option.bind_some, cpy48, e2, Option.bind_some]
    by_cases q : i + j < 20
    · right
      have hwl : (wAll w i (secsK G t j)).l.length ≤ 10000 := by unfold wAll; simp only [List.length_append, wl'_len, secsK_len]; omega
      rw [(rel_write hr hwl (i := i + j) q (b := sec G (t.drop (48 * j))) (by omega) (sec_byt hGb (htb.drop _))).1, Option.bind_some]
      simp only
      rw [if_neg (by simp), next3 (by omega)]
      refine ⟨_, rfl, ⟨j + 1, c, .inr (by omega), ?_⟩, by simp only [List.length_drop]; omega, trivial⟩
      rw [secsK_succ, wrAll_snoc, secsK_len]
      rfl
    · left
      rw [(rel_write_out hr (i := i + j) (by omega)).1, Option.bind_some]
      simp only
      rw [if_pos (by simp), if_neg (by omega), show 20 - i = j by omega]
      rfl
  · left
    have : j = (t.length + 47) / 48 := by omega
    subst this
    rw [if_neg (by simp; omega)]
    rw [if_pos (by omega)]
    rfl

theorem appR {G : List Int} (hG : G.length = 8) (hGb : Byt G) {d : Pdisk_Disk} {w : Mementoref3_Disk} (h : Rel d w) (hw : w.l.length ≤ 9000) {i k : Nat} {t : List Int} (htb : Byt t) (hk : k ≤ 10) (hk0 : 0 < k) (hi : i ≤ 40) :
    loopN (mementoref3_Append_L1 (i : Int) (k : Int) (secsK G t k)) fuel (0, w) = some (if i + k ≤ 20 then Ctl.go (wAll w i (secsK G t k)) else Ctl.ret ((0 : Int), (25 : Int), wAll w i (secsK G t (20 - i)))) := by
  have w0 : wAll w i (secsK G t 0) = w := by unfold wAll; simp [secsK, wl']
  refine loop_eqF (s := ((0 : Int), w)) (fun s => ∃ j : Nat, j ≤ k ∧ (j = 0 ∨ i + j ≤ 20) ∧ s = ((j : Int), wAll w i (secsK G t j))) (fun s => k - s.1.toNat) (fun _ => _) ⟨0, by omega, .inl rfl, by rw [w0]; rfl⟩ (by simp only; omega) ?_
  rintro _ ⟨j, hj, hj2, rfl⟩
  have hr := rel_all h hw hG hGb htb (i := i) (k := j) hj2
  simp only [mementoref3_Append_L1]
  by_cases c : j < k
  · have hs := sec_len hG (t.drop (48 * j))
    have hwl : (wAll w i (secsK G t j)).l.length ≤ 10000 := by unfold wAll; simp only [List.length_append, wl'_len, secsK_len]; omega
    rw [if_pos (by simp; omega), idx_at (by rw [secsK_len]; exact c), Option.bind_some, secsK_at c, wrap64 (n := (i : Int) + j) (by omega) (by omega), show (i : Int) + j = ((i + j : Nat) : Int) by omega]
    by_cases q : i + j < 20
    · right
      rw [(rel_write hr hwl (i := i + j) q (b := sec G (t.drop (48 * j))) (by omega) (sec_byt hGb (htb.drop _))).2.1, Option.bind_some]
      simp only
      rw [if_neg (by simp), next3 (by omega), pad64' hs]
      refine ⟨_, rfl, ⟨j + 1, c, .inr (by omega), ?_⟩, by simp only [Int.toNat_natCast]; omega, trivial⟩
      rw [secsK_succ, wAll_snoc, secsK_len, h.left]
      rfl
    · left
      rw [(rel_write_out hr (i := i + j) (by omega)).2, Option.bind_some]
      simp only
      rw [if_pos (by simp), if_neg (by omega), show 20 - i = j by omega]
      rfl
  · left
    have : j = k := by omega
    subst this
    rw [if_neg (by simp), if_pos (by omega)]
    rfl

theorem append11 {d : Pdisk_Disk} {w : Mementoref3_Disk} (h : Rel d w) (hw : w.l.length ≤ 9000) {g i n : Nat} {b : List Int} (hbb : Byt b) (hb : b.length ≤ 300) (hi : i ≤ 40) (hn : n ≤ 40) :
    ∃ (a e : Int) (d' : Pdisk_Disk) (w' : Mementoref3_Disk), wal_Append d i n g b = some (a, e, d') ∧ mementoref3_Append w i n g b = some (a, e, w') ∧ Rel d' w' ∧ w'.l.length ≤ w.l.length + 7 ∧ (e = 0 → ∃ m : Nat, a = (m : Int) ∧ m ≤ n) := by
  have hG := leB_len 8 g
  have hGb := leB_byt 8 g
  have hl := recB_len hb
  have hk1 := kN_le (b.length : Int)
  have hk := recK_le hb
  have htb := recB_byt hbb hb
  have ht : tot [b] = (recK b : Int) := by have : tot [b] = 0 + nd b.length := rfl; rw [this, recK_nd hb]; omega
  have n1 : wal_Need [b] = some (recK b : Int) := by rw [need_eq (by simp) (fun x hx => by simp at hx; subst hx; omega), ht]
  have n2 : mementoref3_Need [b] = some (recK b : Int) := by rw [refNeed_eq (by simp) (fun x hx => by simp at hx; subst hx; exact ⟨hbb, hb⟩), ht]
  have gc : (if decide ((i : Int) < 0) then some true else (if decide ((i : Int) > (n : Int)) then some true else ((wal_Need [b]).bind fun y => some (decide (y > IntKind.wrap .i64 ((n : Int) - i)))))) = some (decide (n < i ∨ (n : Int) - i < (recK b : Int))) := by
    rw [n1, if_neg (by simp)]
    by_cases c : n < i
    · rw [if_pos (by simp only [decide_eq_true_eq]; omega), decide_eq_true (.inl c)]
    · rw [if_neg (by simp only [decide_eq_true_eq]; omega), wrap64 (n := (n : Int) - i) (by omega) (by omega), Option.bind_some]
      congr 1
      rw [decide_eq_decide]
      omega
  have gr : (if decide ((i : Int) < 0) then some true else (if decide ((i : Int) > (n : Int)) then some true else some (decide ((recK b : Int) > IntKind.wrap .i64 ((n : Int) - i))))) = some (decide (n < i ∨ (n : Int) - i < (recK b : Int))) := by
    rw [if_neg (by simp)]
    by_cases c : n < i
    · rw [if_pos (by simp only [decide_eq_true_eq]; omega), decide_eq_true (.inl c)]
    · rw [if_neg (by simp only [decide_eq_true_eq]; omega), wrap64 (n := (n : Int) - i) (by omega) (by omega)]
      congr 1
      rw [decide_eq_decide]
      omega
  unfold wal_Append mementoref3_Append
  have hlong : ¬ (decide ((b.length : Int) > 65535) = true) := by simp only [decide_eq_true_eq]; omega
  rw [if_neg hlong, if_neg hlong, gc, n2, Option.bind_some, Option.bind_some, gr, Option.bind_some]
  by_cases c2 : n < i ∨ (n : Int) - i < (recK b : Int)
  · rw [decide_eq_true c2]
    exact ⟨0, 27, d, w, rfl, rfl, h, by omega, fun e => by cases e⟩
  rw [decide_eq_false c2]
  simp only [Bool.false_eq_true, if_false]
  have ec := appC (num_eq g) hG hGb h hw (i := i) htb (by omega) (by omega) hi
  have er := appR hG hGb h hw (i := i) (k := recK b) (t := recB b) htb (by omega) (by omega) hi
  rw [(lump_eq hb).1, Option.bind_some, (seal_eq (lumpB_byt hbb hb) (by rw [lumpB_len hb]; omega)).1, Option.bind_some, record_eq hbb hb, Option.bind_some, er]
  unfold recB at ec
  rw [ec]
  have hrk : ((sealL (lumpB b)).length + 47) / 48 = recK b := rfl
  rw [hrk]
  by_cases c3 : i + recK b ≤ 20
  · rw [if_pos c3, if_pos c3, kont_go', kont_go', wrap64 (by omega) (by omega)]
    refine ⟨((i + recK b : Nat) : Int), 0, _, _, rfl, ?_, rel_all h hw hG hGb htb (.inr c3), ?_, fun _ => ⟨_, rfl, by omega⟩⟩
    · rw [show (i : Int) + (recK b : Int) = ((i + recK b : Nat) : Int) by omega]
    · unfold wAll; simp only [List.length_append, wl'_len, secsK_len]; omega
  · rw [if_neg c3, if_neg c3]
    refine ⟨0, 25, _, _, rfl, rfl, rel_all h hw hG hGb htb ?_, ?_, fun e => by cases e⟩
    · omega
    · unfold wAll; simp only [List.length_append, wl'_len, secsK_len]; omega
end Go.Proofs.Yteclchefihcjkaa.Am
