/- A disk that forgets: its functions, as functions over lists. -/
import Derived.Test.YteclchefihcjkaaS11
import Derived.Test.YteclchefihcjkaaO0
import Derived.Test.YteclchefihcjkaaM26
import Derived.KernelRfl
namespace Go.Proofs.Yteclchefihcjkaa.Am
open Go
set_option linter.unusedVariables false

abbrev Sec := List (Int × List Int)
def Z64 : List Int := List.replicate 64 0
def look (l : Sec) (i : Int) (z : List Int) : List Int := (mget l i).getD z
/-- What is sure of a sector; what is there now. -/
def sureD (d : Pdisk_Disk) (i : Int) : List Int := look d.sure i Z64
def rdD (d : Pdisk_Disk) (i : Int) : List Int := look d.now i (sureD d i)
def KU (l : Sec) : Prop := l.Pairwise fun x y => x.1 ≠ y.1
def L64 (l : Sec) : Prop := ∀ y ∈ l, y.2.length = 64
structure DiskOk (d : Pdisk_Disk) : Prop where
  n : 0 ≤ d.n ∧ d.n ≤ 1048576
  now : L64 d.now
  sure : L64 d.sure
  kn : KU d.now
  ks : KU d.sure
  l : ∀ w ∈ d.l, w.b.length = 64 ∧ 0 ≤ w.i ∧ w.i < d.n
  len : d.l.length ≤ 64
  pw : -1 ≤ d.power ∧ d.power ≤ 1000

section
variable {β : Type}
theorem mget_cons (y : Int × β) (l : List (Int × β)) (k : Int) : mget (y :: l) k = if y.1 = k then some y.2 else mget l k := by
  unfold mget
  by_cases h : y.1 = k
  · rw [List.find?_cons_of_pos (by simpa using h), if_pos h]; rfl
  · rw [List.find?_cons_of_neg (by simpa using h), if_neg h]
theorem mget_rep (l : List (Int × β)) (k : Int) (v : β) (j : Int) : mget (l.map fun y => if y.1 == k then (k, v) else y) j = if k = j then (mget l k).map (fun _ => v) else mget l j := by
  induction l with
  | nil => simp [mget]
  | cons y l ih =>
    rw [List.map_cons, mget_cons, mget_cons, mget_cons, ih]
    by_cases hy : y.1 = k
    · have e : (if (y.1 == k) = true then (k, v) else y) = (k, v) := if_pos (by simpa using hy)
      rw [e, if_pos hy]
      simp only
      by_cases hk : k = j
      · rw [if_pos hk, if_pos hk]; rfl
      · rw [if_neg hk, if_neg hk, if_neg hk, if_neg (by rw [hy]; exact hk)]
    · have e : (if (y.1 == k) = true then (k, v) else y) = y := if_neg (by simpa using hy)
      rw [e, if_neg hy]
      by_cases hj : y.1 = j
      · rw [if_pos hj, if_pos hj, if_neg (fun e => hy (hj.trans e.symm))]
      · rw [if_neg hj, if_neg hj]
theorem mget_append (a b : List (Int × β)) (k : Int) : mget (a ++ b) k = (mget a k).or (mget b k) := by
  induction a with
  | nil => rfl
  | cons y a ih =>
    rw [List.cons_append, mget_cons, mget_cons, ih]
    split <;> rfl
theorem mget_mset (l : List (Int × β)) (k : Int) (v : β) (j : Int) : mget (mset l k v) j = if k = j then some v else mget l j := by
  unfold mset
  split
  · rename_i ha
    rw [mget_rep]
    by_cases hk : k = j
    · rw [if_pos hk, if_pos hk]
      obtain ⟨z, hz, e⟩ := List.any_eq_true.1 ha
      cases hg : mget l k with
      | none => exact absurd hz (by have := mget_none hg z.2; rw [← (show z.1 = k by simpa using e)] at this; exact this)
      | some b => rfl
    · rw [if_neg hk, if_neg hk]
  · rename_i ha
    rw [mget_append, mget_cons]
    by_cases hk : k = j
    · rw [if_pos hk, if_pos hk]
      have : mget l j = none := by
        cases hg : mget l j with
        | none => rfl
        | some b =>
          have := mget_some hg
          exact absurd (List.any_eq_true.2 ⟨_, this, by simp [hk]⟩) ha
      rw [this]; rfl
    · rw [if_neg hk, if_neg hk]
      cases mget l j <;> rfl
end

theorem look_mset (l : Sec) (k : Int) (v : List Int) (j : Int) (z : List Int) : look (mset l k v) j z = if k = j then v else look l j z := by
  unfold look; rw [mget_mset]; split <;> rfl
theorem L64.mset {l : Sec} (h : L64 l) {k : Int} {v : List Int} (hv : v.length = 64) : L64 (mset l k v) := fun y hy => by
  rcases mset_mem.1 hy with rfl | ⟨h1, _⟩
  · exact hv
  · exact h y h1
theorem L64.look {l : Sec} (h : L64 l) {i : Int} {z : List Int} (hz : z.length = 64) : (look l i z).length = 64 := by
  unfold Am.look
  cases hg : mget l i with
  | none => exact hz
  | some b => exact h _ (mget_some hg)
theorem Z64_len : Z64.length = 64 := List.length_replicate
theorem DiskOk.sure_len {d : Pdisk_Disk} (h : DiskOk d) (i : Int) : (sureD d i).length = 64 := h.sure.look Z64_len
theorem DiskOk.rd_len {d : Pdisk_Disk} (h : DiskOk d) (i : Int) : (rdD d i).length = 64 := h.now.look (h.sure_len i)

/-- A sector of such bytes, noughts behind them. -/
def pad (b : List Int) : List Int := b ++ List.replicate (64 - b.length) 0
theorem pad_len {b : List Int} (h : b.length ≤ 64) : (pad b).length = 64 := by simp [pad]; omega
theorem pad_eq {b : List Int} (h : b.length ≤ 64) : cpyL Z64 0 Z64.length b = pad b := by
  unfold cpyL pad
  rw [List.take_zero, List.nil_append, Z64_len, List.take_of_length_le h, Nat.zero_add, Nat.min_eq_left h]
  unfold Z64
  rw [List.drop_replicate]

/-- The power, one more write gone. -/
def dec (p : Int) : Int := if p > 0 then p - 1 else p
theorem dec_ok {p : Int} (h : -1 ≤ p ∧ p ≤ 1000) : -1 ≤ dec p ∧ dec p ≤ 1000 := by unfold dec; split <;> omega

def wrD (d : Pdisk_Disk) (i : Int) (b : List Int) : Pdisk_Disk := ⟨d.n, d.sure, mset d.now i (pad b), if d.l.length < 64 then d.l ++ [⟨i, pad b⟩] else d.l, dec d.power⟩
theorem mks64 : mks 1 (0 : Int) 64 = some Z64 := by unfold mks; rw [if_pos ⟨by omega, by omega, by omega⟩]; rfl

theorem dead3_eq {d : Pdisk_Disk} (h : DiskOk d) : pdisk_Disk_dead d = some (d.power == 0, ⟨d.n, d.sure, d.now, d.l, dec d.power⟩) := by
  unfold pdisk_Disk_dead dec
  have := h.pw
  by_cases hp : d.power > 0
  · rw [if_pos (by simpa using hp), if_pos hp, wrap64 (by omega) (by omega)]
    congr 2
    symm; simp; omega
  · rw [if_neg (by simpa using hp), if_neg hp]

theorem write_sec {d : Pdisk_Disk} {i : Int} {b : List Int} (hi : ¬ (0 ≤ i ∧ i < d.n)) : pdisk_Disk_Write d i b = some (25, d) := by
  unfold pdisk_Disk_Write
  by_cases h0 : i < 0
  · rw [if_pos (by simpa using h0)]; rfl
  · rw [if_neg (by simpa using h0), Option.bind_some, if_pos (by simp; omega)]
theorem in3 {i n : Int} (hi : 0 ≤ i ∧ i < n) : (if decide (i < 0) = true then some true else some (decide (i ≥ n))) = some false := by
  rw [if_neg (by simp; omega)]; simp; omega
theorem write_eq {d : Pdisk_Disk} (h : DiskOk d) {i : Int} {b : List Int} (hi : 0 ≤ i ∧ i < d.n) (hb : b.length ≤ 64) (hp : d.power ≠ 0) : pdisk_Disk_Write d i b = some (0, wrD d i b) := by
  unfold pdisk_Disk_Write
  rw [in3 hi, Option.bind_some, if_neg (by simp), if_neg (by simp; omega), dead3_eq h, Option.bind_some]
  simp only
  rw [if_neg (by simpa using hp), mks64, Option.bind_some, pad_eq hb]
  unfold wrD
  by_cases hl : d.l.length < 64
  · rw [if_pos (by simp; omega), app_of (by simp; omega) (by simp; omega), if_pos hl]
    rfl
  · rw [if_neg (by simp; omega), if_neg hl]
    rfl

theorem wr_ok {d : Pdisk_Disk} (h : DiskOk d) {i : Int} {b : List Int} (hi : 0 ≤ i ∧ i < d.n) (hb : b.length ≤ 64) : DiskOk (wrD d i b) := by
  refine ⟨h.n, h.now.mset (pad_len hb), h.sure, mset_keys h.kn _ _, h.ks, fun w hw => ?_, ?_, dec_ok h.pw⟩
  · simp only [wrD] at hw ⊢
    split at hw
    · rcases List.mem_append.1 hw with hw | hw
      · exact h.l w hw
      · simp at hw; subst hw; exact ⟨pad_len hb, hi⟩
    · exact h.l w hw
  · simp only [wrD]
    have := h.len
    split <;> simp <;> omega
theorem rd_wr (d : Pdisk_Disk) (i : Int) (b : List Int) (j : Int) : rdD (wrD d i b) j = if i = j then pad b else rdD d j := by
  unfold rdD wrD sureD
  rw [look_mset]

theorem clone3 {b : List Int} (h : b.length = 64) : slices_Clone_Lbyte_byte b = some b := by
  unfold slices_Clone_Lbyte_byte
  rw [app_of (by simp; omega) (by simp; omega)]; rfl
theorem chkE3 {b : List Int} (h : b.length = 64) : chkE b = some () := by
  unfold chkE
  cases b with
  | nil => simp at h
  | cons x b => rfl
theorem get3 {s : Sec} (hs : L64 s) (i : Int) : pdisk_sectors_get s i = some (look s i Z64) := by
  unfold pdisk_sectors_get look mcase
  cases hg : mget s i with
  | none => simp only [mks64, Option.bind_some]; rfl
  | some b =>
    have := hs _ (mget_some hg)
    simp only [chkE3 this, clone3 this, Option.bind_some]; rfl
theorem read_eq {d : Pdisk_Disk} (h : DiskOk d) {i : Int} (hi : 0 ≤ i ∧ i < d.n) : pdisk_Disk_Read d i = some (rdD d i) := by
  unfold pdisk_Disk_Read
  rw [in3 hi, Option.bind_some, if_neg (by simp), get3 h.sure]
  unfold rdD sureD mcase
  generalize look d.sure i Z64 = z
  unfold look
  cases hg : mget d.now i with
  | none => rfl
  | some b =>
    have := h.now _ (mget_some hg)
    simp only [chkE3 this, clone3 this, Option.bind_some]; rfl
theorem read_out {d : Pdisk_Disk} {i : Int} (hi : ¬ (0 ≤ i ∧ i < d.n)) : pdisk_Disk_Read d i = some [] := by
  unfold pdisk_Disk_Read
  by_cases h0 : i < 0
  · rw [if_pos (by simpa using h0)]; rfl
  · rw [if_neg (by simpa using h0), Option.bind_some, if_pos (by simp; omega)]

theorem new3 {n : Int} (h : 0 ≤ n ∧ n ≤ 1048576) : pdisk_New n = some ⟨n, [], [], [], -1⟩ := by
  unfold pdisk_New maxI minI
  congr 2
  · rw [if_neg (by omega)]
    split <;> omega
theorem new3_ok {n : Int} (h : 0 ≤ n ∧ n ≤ 1048576) : DiskOk ⟨n, [], [], [], -1⟩ :=
  ⟨h, fun y hy => by simp at hy, fun y hy => by simp at hy, .nil, .nil, fun w hw => by simp at hw, by simp, by simp⟩
theorem rd_new (n i : Int) : rdD ⟨n, [], [], [], -1⟩ i = Z64 := rfl

theorem next3 {i : Nat} (h : i < 1000000) : IntKind.wrap .i64 ((i : Int) + 1) = ((i + 1 : Nat) : Int) := by rw [wrap64 (by omega) (by omega)]; omega
end Go.Proofs.Yteclchefihcjkaa.Am
