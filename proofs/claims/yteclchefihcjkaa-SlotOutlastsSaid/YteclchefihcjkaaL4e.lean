/- A disk that forgets: a crash; the laws of its power, of its last writes, of torn sectors. -/
import Derived.Test.YteclchefihcjkaaL4d
import Derived.Laws.BitsLemmas
import Derived.Lib.EndianBits
namespace Go.Proofs.Yteclchefihcjkaa.Am
open Go
set_option linter.unusedVariables false

theorem next3 {i : Nat} (h : i < 1000000) : IntKind.wrap .i64 ((i : Int) + 1) = ((i + 1 : Nat) : Int) := by rw [wrap64 (by omega) (by omega)]; omega
def U64 (m : Int) : Prop := 0 ≤ m ∧ m < 18446744073709551616
def bitM (m : Int) (i : Nat) : Bool := (m / 2 ^ i) % 2 == 1
theorem and1 {x : Int} (h : U64 x) : Go.bits .and .u64 x 1 = x % 2 := by
  obtain ⟨a, rfl⟩ := Int.eq_ofNat_of_zero_le h.1
  have := (bits_nat .u64 64 (by decide) wraps_u64 a 1 (by have := h.2; omega) (by decide)).1
  simp only [Int.cast_ofNat_Int] at this ⊢
  first | (rw [this, Nat.and_one_is_mod]; omega) | (have t2 : Go.bits .and .u64 (a : Int) 1 = ((a &&& 1 : Nat) : Int) := this; rw [t2, Nat.and_one_is_mod]; omega)
theorem shr64 {m : Int} (h : U64 m) (i : Nat) : U64 (shrI m i) := by
  unfold shrI
  have h2 : (0 : Int) < 2 ^ i := by exact_mod_cast Nat.two_pow_pos i
  refine ⟨Int.ediv_nonneg h.1 (Int.le_of_lt h2), ?_⟩
  have := Int.ediv_le_self (2 ^ i) h.1
  have := h.2
  omega
theorem bit_eq {m : Int} (h : U64 m) (i : Nat) : (Go.bits .and .u64 (shrI m i) 1 == 1) = bitM m i ∧ (Go.bits .and .u64 (shrI m i) 1 == 0) = !bitM m i := by
  rw [and1 (shr64 h i)]
  unfold bitM shrI
  generalize (m / 2 ^ i) = x
  have : x % 2 = 0 ∨ x % 2 = 1 := by omega
  rcases this with e | e <;> rw [e] <;> exact ⟨rfl, rfl⟩
theorem cnt64 {i : Nat} (h : i ≤ 64) : cnt .u64 (i : Int) = some i := by
  unfold cnt
  rw [if_pos (by omega)]
  congr 1
  show min ((i : Int)).toNat 64 = i
  omega

/-- The last one of k writes that a mask keeps; below 0: none. -/
def lastB (m : Int) : Nat → Int
  | 0 => -1
  | k + 1 => if bitM m k then k else lastB m k
theorem lastB_lt (m : Int) : ∀ k, -1 ≤ lastB m k ∧ lastB m k < k
  | 0 => by simp [lastB]
  | k + 1 => by
    have := lastB_lt m k
    unfold lastB
    split <;> omega

def cstep (sure : Sec) (mask torn last : Int) (now : Sec) (i : Nat) (w : Pdisk_write) : Sec :=
  if bitM mask i then mset now w.i (if (i : Int) = last ∧ 0 ≤ torn ∧ torn < 64 then w.b.take torn.toNat ++ (look now w.i (look sure w.i Z64)).drop torn.toNat else w.b) else now
def cfold (sure : Sec) (mask torn last : Int) : List Pdisk_write → Nat → Sec → Sec
  | [], _, now => now
  | w :: r, i, now => cfold sure mask torn last r (i + 1) (cstep sure mask torn last now i w)
theorem cfold_snoc (sure : Sec) (mask torn last : Int) (w : Pdisk_write) : ∀ (r : List Pdisk_write) (i : Nat) (now : Sec), cfold sure mask torn last (r ++ [w]) i now = cstep sure mask torn last (cfold sure mask torn last r i now) (i + r.length) w
  | [], i, now => rfl
  | x :: r, i, now => by
    rw [List.cons_append, cfold, cfold, cfold_snoc, List.length_cons]
    congr 1
    omega
def crNow (d : Pdisk_Disk) (mask torn : Int) : Sec := cfold d.sure mask torn (lastB mask d.l.length) (d.l.take (lastB mask d.l.length + 1).toNat) 0 []
def crD (d : Pdisk_Disk) (mask torn : Int) : Pdisk_Disk := ⟨d.n, munion d.sure (crNow d mask torn), [], [], -1⟩

theorem cstep_ok {d : Pdisk_Disk} (h : DiskOk d) {mask torn last : Int} {now : Sec} (h1 : L64 now) (h2 : KU now) {i : Nat} {w : Pdisk_write} (hw : w.b.length = 64) : L64 (cstep d.sure mask torn last now i w) ∧ KU (cstep d.sure mask torn last now i w) := by
  unfold cstep
  split
  · refine ⟨h1.mset ?_, mset_keys h2 _ _⟩
    split
    · rename_i hc
      rw [List.length_append, List.length_take, List.length_drop, hw, h1.look (h.sure.look Z64_len)]
      omega
    · exact hw
  · exact ⟨h1, h2⟩
theorem cfold_ok {d : Pdisk_Disk} (h : DiskOk d) {mask torn last : Int} : ∀ {r : List Pdisk_write} {i : Nat} {now : Sec}, (∀ w ∈ r, w.b.length = 64) → L64 now → KU now → L64 (cfold d.sure mask torn last r i now) ∧ KU (cfold d.sure mask torn last r i now)
  | [], _, _, _, h1, h2 => ⟨h1, h2⟩
  | w :: r, i, now, hw, h1, h2 => by
    have := cstep_ok h (mask := mask) (torn := torn) (last := last) h1 h2 (i := i) (hw w (List.mem_cons_self ..))
    exact cfold_ok h (r := r) (fun x hx => hw x (List.mem_cons_of_mem _ hx)) this.1 this.2

theorem crash_eq {d : Pdisk_Disk} (h : DiskOk d) {mask torn : Int} (hm : U64 mask) : pdisk_Disk_Crash d mask torn = some (crD d mask torn) := by
  unfold pdisk_Disk_Crash
  have hlen := h.len
  have L1 : loopN (pdisk_Disk_Crash_L1 d mask) fuel ((-1), 0) = some (lastB mask d.l.length) := by
    refine loop_eqF (fun s => ∃ i : Nat, i ≤ d.l.length ∧ s = (lastB mask i, (i : Int))) (fun s => d.l.length - s.2.toNat) (fun _ => lastB mask d.l.length) ⟨0, by omega, rfl⟩ (by simp; omega) ?_
    rintro _ ⟨i, hi, rfl⟩
    simp only [pdisk_Disk_Crash_L1]
    by_cases hil : i < d.l.length
    · right
      rw [if_pos (by simpa using hil), cnt64 (by omega), Option.bind_some, (bit_eq hm i).1, next3 (by omega)]
      refine ⟨(lastB mask (i + 1), ((i + 1 : Nat) : Int)), ?_, ⟨i + 1, hil, rfl⟩, by simp only [Int.toNat_natCast]; omega, trivial⟩
      rw [lastB]
      cases bitM mask i <;> rfl
    · left
      have : i = d.l.length := by omega
      subst this
      rw [if_neg (by simp)]; rfl
  rw [L1, Option.bind_some]
  have hb := lastB_lt mask d.l.length
  unfold crD crNow
  generalize lastB mask d.l.length = last at *
  have ek : IntKind.wrap .i64 (last + 1) = (((last + 1).toNat : Nat) : Int) := by rw [wrap64 (by omega) (by omega)]; omega
  have z0 : ((0 : Nat) : Int) = 0 := rfl
  have hk : (last + 1).toNat ≤ d.l.length := by omega
  rw [ek, ← z0, slc_nat _ (by omega) hk, Option.bind_some, List.drop_zero]
  have hwl : ∀ w ∈ d.l.take (last + 1).toNat, w.b.length = 64 ∧ 0 ≤ w.i ∧ w.i < d.n := fun w hw => h.l w (List.mem_of_mem_take hw)
  have hml : (d.l.take (last + 1).toNat).length ≤ 64 := by rw [List.length_take]; omega
  generalize d.l.take (last + 1).toNat = m at *
  have L2 : loopN (pdisk_Disk_Crash_L2 d mask torn last m) fuel (0, []) = some (cfold d.sure mask torn last m 0 []) := by
    refine loop_eqF (fun s => ∃ i : Nat, i ≤ m.length ∧ s = ((i : Int), cfold d.sure mask torn last (m.take i) 0 [])) (fun s => m.length - s.1.toNat) (fun _ => cfold d.sure mask torn last m 0 []) ⟨0, by omega, rfl⟩ (by simp; omega) ?_
    rintro _ ⟨i, hi, rfl⟩
    simp only [pdisk_Disk_Crash_L2]
    by_cases him : i < m.length
    · right
      obtain ⟨w1, w2, w3⟩ := hwl _ (List.getElem_mem him)
      have hok := cfold_ok h (mask := mask) (torn := torn) (last := last) (r := m.take i) (i := 0) (now := []) (fun w hw => (hwl w (List.mem_of_mem_take hw)).1) (fun y hy => by cases hy) .nil
      rw [if_pos (by simpa using him), idx_at him, Option.bind_some, cnt64 (by omega), Option.bind_some, (bit_eq hm i).2, next3 (by omega)]
      have et : m.take (i + 1) = m.take i ++ [m[i]] := List.take_succ_eq_append_getElem him
      refine ⟨(((i + 1 : Nat) : Int), cfold d.sure mask torn last (m.take (i + 1)) 0 []), ?_, ⟨i + 1, him, rfl⟩, by simp only [Int.toNat_natCast]; omega, trivial⟩
      rw [et, cfold_snoc, List.length_take, Nat.min_eq_left (by omega), Nat.zero_add]
      generalize cfold d.sure mask torn last (m.take i) 0 [] = now at *
      generalize m[i] = w at *
      unfold cstep
      cases hbit : bitM mask i with
      | false => simp
      | true =>
        simp only [Bool.not_true, Bool.false_eq_true, if_false, if_true]
        rw [clone3 w1, Option.bind_some]
        have hc : (if ((i : Int) == last) = true then if decide (torn ≥ 0) = true then some (decide (torn < 64)) else some false else some false) = some (decide ((i : Int) = last ∧ 0 ≤ torn ∧ torn < 64)) := by
          by_cases e1 : (i : Int) = last
          · rw [if_pos (by simpa using e1)]
            by_cases e2 : 0 ≤ torn
            · rw [if_pos (by simpa using e2)]; simp [e1, e2]
            · rw [if_neg (by simpa using e2)]; simp [e2]
          · rw [if_neg (by simpa using e1)]; simp [e1]
        rw [hc, Option.bind_some]
        by_cases hcc : (i : Int) = last ∧ 0 ≤ torn ∧ torn < 64
        · rw [decide_eq_true hcc, if_pos rfl, if_pos hcc]
          obtain ⟨t, rfl⟩ : ∃ t : Nat, torn = t := ⟨torn.toNat, by omega⟩
          have ht : t < 64 := by omega
          have s1 : slcH w.b.length (t : Int) ((w.b.length : Nat) : Int) = some (t, 64 - t) := by unfold slcH; rw [if_pos ⟨by omega, by omega, by omega⟩]; rw [w1]; simp
          have dok : DiskOk ⟨d.n, d.sure, now, [], -1⟩ := ⟨h.n, hok.1, h.sure, hok.2, h.ks, fun w hw => by simp at hw, by simp, by simp⟩
          have hr := read_eq dok (i := w.i) ⟨w2, w3⟩
          have hrl := dok.rd_len w.i
          have er : rdD ⟨d.n, d.sure, now, [], -1⟩ w.i = look now w.i (look d.sure w.i Z64) := rfl
          rw [er] at hr hrl
          rw [s1, Option.bind_some, hr]
          simp only [Option.bind_some]
          rw [slc_nat _ (by omega) (by omega), Option.bind_some, Option.bind_some, Option.bind_some]
          congr 5
          unfold cpyL
          generalize look now w.i (look d.sure w.i Z64) = z at *
          have e1 : (z.take z.length).drop t = z.drop t := by rw [List.take_length]
          rw [e1, List.take_of_length_le (l := z.drop t) (by rw [List.length_drop]; omega), List.length_drop, List.drop_eq_nil_of_le (as := w.b) (by omega), List.append_nil, Int.toNat_natCast]
        · rw [decide_eq_false hcc, if_neg (by simp), if_neg hcc]
          rfl
    · left
      have : i = m.length := by omega
      subst this
      rw [if_neg (by simp), List.take_length]; rfl
  rw [z0, L2]
  rfl

theorem cr_ok {d : Pdisk_Disk} (h : DiskOk d) (mask torn : Int) : DiskOk (crD d mask torn) := by
  have := cfold_ok h (mask := mask) (torn := torn) (last := lastB mask d.l.length) (r := d.l.take (lastB mask d.l.length + 1).toNat) (i := 0) (now := []) (fun w hw => (h.l w (List.mem_of_mem_take hw)).1) (fun y hy => by cases hy) .nil
  exact ⟨h.n, fun y hy => by simp [crD] at hy, h.sure.munion this.1, .nil, munion_keys h.ks, fun w hw => by simp [crD] at hw, by simp [crD], by simp [crD]⟩
theorem rd_cr {d : Pdisk_Disk} (h : DiskOk d) (mask torn : Int) (j : Int) : rdD (crD d mask torn) j = look (crNow d mask torn) j (sureD d j) := by
  have := cfold_ok h (mask := mask) (torn := torn) (last := lastB mask d.l.length) (r := d.l.take (lastB mask d.l.length + 1).toNat) (i := 0) (now := []) (fun w hw => (h.l w (List.mem_of_mem_take hw)).1) (fun y hy => by cases hy) .nil
  have hk : KU (crNow d mask torn) := this.2
  unfold rdD sureD crD
  simp only
  rw [look_munion hk]
  rfl
end Go.Proofs.Yteclchefihcjkaa.Am
