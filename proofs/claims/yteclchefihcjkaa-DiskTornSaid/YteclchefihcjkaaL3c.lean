/- A disk that forgets: the laws of last writes and of torn sectors. -/
import Derived.Test.YteclchefihcjkaaL3b
namespace Go.Proofs.Yteclchefihcjkaa.Am
open Go
set_option linter.unusedVariables false

theorem pad_get {b : List Int} (h : b.length ≤ 64) {i : Nat} (hi : i < 64) : (pad b)[i]? = some (b.getD i 0) := by
  unfold pad
  rcases Nat.lt_or_ge i b.length with hl | hl
  · rw [List.getElem?_append_left hl, List.getD_eq_getElem?_getD, List.getElem?_eq_getElem hl]; rfl
  · rw [List.getElem?_append_right hl, List.getElem?_replicate, if_pos (by omega), List.getD_eq_getElem?_getD, List.getElem?_eq_none hl]; rfl
theorem Z64_pad : Z64 = pad [0] := rfl

theorem diskLast_eq {l : List Int} (hb : ∀ x ∈ l, 0 ≤ x ∧ x < 256) : mementolaw3_DiskLast l = some true := by
  unfold mementolaw3_DiskLast
  rw [known3_eq, Option.bind_some, Bool.not_true, if_neg (by simp)]
  by_cases hl : l.length > 60
  · rw [if_pos (by simp; omega)]
  rw [if_neg (by simp; omega), new3 (by omega), Option.bind_some]
  have key : ∃ t, loopN (mementolaw3_DiskLast_L1 l) fuel (0, ⟨5, [], [], [], -1⟩, (List.replicate 5 0)) = some t ∧ (DiskOk t.1 ∧ t.1.n = 5 ∧ t.2.length = 5 ∧ ∀ j : Nat, j < 5 → ∃ x, t.2[j]? = some x ∧ rdD t.1 j = pad [x]) := by
    refine loop_QF (fun s => ∃ (i : Nat) (d : Pdisk_Disk) (w : List Int), i ≤ l.length ∧ s = ((i : Int), d, w) ∧ DiskOk d ∧ d.n = 5 ∧ d.power = -1 ∧ w.length = 5 ∧ ∀ j : Nat, j < 5 → ∃ x, w[j]? = some x ∧ rdD d j = pad [x]) (fun s => l.length - s.1.toNat) _
      ⟨0, _, _, by omega, rfl, new3_ok (by omega), rfl, rfl, rfl, fun j hj => ⟨0, by rw [List.getElem?_replicate, if_pos hj], Z64_pad⟩⟩ (by simp; omega) ?_
    rintro _ ⟨i, d, w, hi, rfl, hd, dn, dp, hw, hr⟩
    simp only [mementolaw3_DiskLast_L1]
    by_cases hil : i < l.length
    · right
      have hx := hb _ (List.getElem_mem hil)
      rw [if_pos (by simpa using hil), idx_at hil, Option.bind_some]
      generalize l[i] = x at *
      obtain ⟨k, hk, ek⟩ : ∃ k : Nat, k < 5 ∧ Int.tmod x 5 = (k : Int) := ⟨x.toNat % 5, Nat.mod_lt _ (by omega), by rw [Int.tmod_eq_emod_of_nonneg hx.1]; omega⟩
      have ew : IntKind.wrap .i64 (k : Int) = (k : Int) := wrap64 (by omega) (by omega)
      obtain ⟨y, hy, _⟩ := hr k hk
      rw [ek, ew, write_eq hd (by omega) (by simp) (by omega), Option.bind_some]
      simp only
      rw [idx_nat, hy, Option.bind_some, updL_nat (by omega), Option.bind_some, next3 (by omega)]
      have hd' := wr_ok hd (i := (k : Int)) (b := [x]) (by omega) (by simp)
      have dp' : (wrD d (k : Int) [x]).power = -1 := by show dec d.power = -1; rw [dp]; rfl
      have hr' : ∀ j : Nat, j < 5 → ∃ z, (w.set k x)[j]? = some z ∧ rdD (wrD d (k : Int) [x]) j = pad [z] := fun j hj => by
        rw [rd_wr]
        by_cases hkj : k = j
        · subst hkj
          exact ⟨x, List.getElem?_set_self (by omega), by rw [if_pos rfl]⟩
        · obtain ⟨z, z1, z2⟩ := hr j hj
          exact ⟨z, by rw [List.getElem?_set_ne hkj]; exact z1, by rw [if_neg (by omega)]; exact z2⟩
      obtain ⟨d2, hop, hd2, dn2, dp2, hr2⟩ : ∃ d2, (if (Int.tmod x 7 == 0) = true then (pdisk_Disk_Flush (wrD d (k : Int) [x])).bind fun y => some (y.snd, w.set k x) else some (wrD d (k : Int) [x], w.set k x)) = some (d2, w.set k x) ∧ DiskOk d2 ∧ d2.n = 5 ∧ d2.power = -1 ∧ ∀ j : Nat, rdD d2 j = rdD (wrD d (k : Int) [x]) j := by
        split
        · rw [flush_eq hd' (by omega)]
          exact ⟨flD (wrD d (k : Int) [x]), rfl, fl_ok hd', dn, by show dec (wrD d (k : Int) [x]).power = -1; rw [dp']; rfl, fun j => rd_fl hd' j⟩
        · exact ⟨_, rfl, hd', dn, dp', fun _ => rfl⟩
      rw [hop, Option.bind_some]
      exact ⟨_, rfl, ⟨i + 1, d2, w.set k x, hil, rfl, hd2, dn2, dp2, by simp [hw], fun j hj => by rw [hr2]; exact hr' j hj⟩, by simp only [Int.toNat_natCast]; omega⟩
    · left
      rw [if_neg (by simp; omega)]
      exact ⟨_, rfl, hd, dn, hw, hr⟩
  obtain ⟨⟨d, w⟩, ht, hd, dn, hw, hr⟩ := key
  simp only at hd dn hw hr
  rw [ht, Option.bind_some]
  simp only
  rw [loop_eqF (b := mementolaw3_DiskLast_L2 d w) (s := 0) (fun s => ∃ i : Nat, i ≤ 5 ∧ s = (i : Int)) (fun s => 5 - s.toNat) (fun _ => .go ()) ⟨0, by omega, rfl⟩ (by simp)]
  · rw [kont_go', read_out (by omega), Option.bind_some, if_pos (by simp), read_out (by omega)]
    rfl
  rintro _ ⟨i, hi, rfl⟩
  simp only [mementolaw3_DiskLast_L2]
  by_cases hi5 : i < 5
  · right
    obtain ⟨x, x1, x2⟩ := hr i hi5
    have hl64 : ((pad [x]).length : Int) = 64 := rfl
    have g0 : idx (pad [x]) 0 = some x := rfl
    have g1 : idx (pad [x]) 1 = some 0 := rfl
    rw [if_pos (by simp; omega), read_eq hd (by omega), Option.bind_some, x2, hl64, if_neg (by simp), g0, Option.bind_some, idx_nat, x1, Option.bind_some, if_neg (by simp), g1]
    simp only [Option.bind_some, bne_self_eq_false, Bool.false_eq_true, if_false]
    rw [next3 (by omega)]
    exact ⟨_, rfl, ⟨i + 1, hi5, rfl⟩, by simp only [Int.toNat_natCast]; omega, trivial⟩
  · left
    rw [if_neg (by simp; omega)]
    rfl

theorem diskTorn_eq {o n : List Int} {t : Int} {keep : Bool} (ht : -128 ≤ t ∧ t < 128) : mementolaw3_DiskTorn o n t keep = some true := by
  unfold mementolaw3_DiskTorn
  rw [known3_eq, Option.bind_some, Bool.not_true, if_neg (by simp)]
  by_cases ho : o.length > 64
  · rw [if_pos (by simp; omega)]; rfl
  rw [if_neg (by simp; omega), Option.bind_some]
  by_cases hn : n.length > 64
  · rw [if_pos (by simp; omega)]
  rw [if_neg (by simp; omega), new3 (by omega), Option.bind_some]
  have h0 := new3_ok (n := 1) (by omega)
  have e1 := write_eq h0 (i := 0) (b := o) (by simp) (by omega) (by simp)
  have h1 := wr_ok h0 (i := 0) (b := o) (by simp) (by omega)
  have e2 := flush_eq h1 (by show dec (-1) ≠ 0; decide)
  have h2 := fl_ok h1
  have e3 := write_eq h2 (i := 0) (b := n) (by show (0 : Int) ≤ 0 ∧ (0 : Int) < 1; omega) (by omega) (by show dec (dec (-1)) ≠ 0; decide)
  have h3 := wr_ok h2 (i := 0) (b := n) (by show (0 : Int) ≤ 0 ∧ (0 : Int) < 1; omega) (by omega)
  have hs : sureD (wrD (flD (wrD ⟨1, [], [], [], -1⟩ 0 o)) 0 n) 0 = pad o := by
    have := rd_fl h1 0
    rw [rd_wr, if_pos rfl] at this
    exact this
  have hl : (wrD (flD (wrD ⟨1, [], [], [], -1⟩ 0 o)) 0 n).l = [⟨0, pad n⟩] := rfl
  have hsu : look (wrD (flD (wrD ⟨1, [], [], [], -1⟩ 0 o)) 0 n).sure 0 Z64 = pad o := hs
  have hn3 : (wrD (flD (wrD ⟨1, [], [], [], -1⟩ 0 o)) 0 n).n = 1 := rfl
  simp only [e1, e2, e3, Option.bind_some]
  generalize wrD (flD (wrD ⟨1, [], [], [], -1⟩ 0 o)) 0 n = d at *
  have ew : IntKind.wrap .i64 t = t := wrap64 (by omega) (by omega)
  rw [ew]
  have hmk : ∃ m, (if keep = true then some (1 : Int) else some 0) = some m ∧ U64 m ∧ m = if keep then 1 else 0 := by cases keep <;> exact ⟨_, rfl, ⟨by omega, by omega⟩, rfl⟩
  obtain ⟨m, hm1, hm2, hm3⟩ := hmk
  rw [hm1, Option.bind_some, crash_eq h3 hm2, Option.bind_some]
  have hc := cr_ok h3 m t
  -- what is there then
  let N : Int := if keep then (if 0 ≤ t ∧ t ≤ 64 then t else 64) else 0
  have hrd : rdD (crD d m t) 0 = (pad n).take N.toNat ++ (pad o).drop N.toNat := by
    cases keep with
    | false =>
      subst hm3
      show rdD (crD d 0 t) 0 = _
      rw [cr_none h3, hs]
      rfl
    | true =>
      have hb : bitM 1 0 = true := rfl
      have hlast : lastB 1 [(⟨0, pad n⟩ : Pdisk_write)].length = 0 := rfl
      subst hm3
      show rdD (crD d 1 t) 0 = _
      rw [rd_cr h3, hs]
      unfold crNow
      rw [hl, hlast]
      show look (cstep d.sure 1 t 0 [] 0 ⟨0, pad n⟩) 0 (pad o) = _
      unfold cstep
      rw [hb, if_pos rfl, look_mset, if_pos rfl]
      simp only [N, if_true]
      have hE : look ([] : Sec) 0 (look d.sure 0 Z64) = pad o := hsu
      rw [hE]
      by_cases hc1 : 0 ≤ t ∧ t < 64
      · rw [if_pos ⟨rfl, hc1⟩, if_pos (by omega)]
      · rw [if_neg (fun e => hc1 e.2)]
        have : (if 0 ≤ t ∧ t ≤ 64 then t else 64) = 64 := by split <;> omega
        rw [this, List.take_of_length_le (by rw [pad_len (by omega)]; decide), List.drop_eq_nil_of_le (by rw [pad_len (by omega)]; decide), List.append_nil]
  have hN : ∃ T, ((if (decide (t < 0)) = true then (some true) else (some (decide (t > 64)))).bind fun t48 => ((if t48 then (some 64) else (some t)).bind fun t11 => ((if (!keep) = true then (some 0) else (some t11)).bind fun t1144 => (some t1144)))) = some T ∧ T = N := by
    refine ⟨N, ?_, rfl⟩
    simp only [N]
    by_cases q1 : t < 0
    · rw [if_pos (by simpa using q1)]
      cases keep
      · rfl
      · simp; omega
    · rw [if_neg (by simpa using q1)]
      by_cases q2 : t > 64
      · rw [decide_eq_true q2]
        cases keep
        · rfl
        · simp; omega
      · rw [decide_eq_false q2]
        cases keep
        · rfl
        · simp; omega
  have fin : ((pdisk_Disk_Read (crD d m t) 0).bind fun y50 => (kont (loopN (mementolaw3_DiskTorn_L1 o n N y50) fuel 0) fun () => (some true))) = some true := by
    rw [read_eq hc (by show (0 : Int) ≤ 0 ∧ 0 < d.n; omega), Option.bind_some, hrd]
    have hNb : 0 ≤ N ∧ N ≤ 64 := by simp only [N]; split <;> (try split) <;> omega
    have hlen : ((pad n).take N.toNat ++ (pad o).drop N.toNat).length = 64 := by rw [List.length_append, List.length_take, List.length_drop, pad_len (by omega), pad_len (by omega)]; omega
    have hget : ∀ i : Nat, i < 64 → ((pad n).take N.toNat ++ (pad o).drop N.toNat)[i]? = some (if (i : Int) < N then n.getD i 0 else o.getD i 0) := fun i hi => by
      by_cases q : (i : Int) < N
      · rw [List.getElem?_append_left (by rw [List.length_take, pad_len (by omega)]; omega), List.getElem?_take_of_lt (by omega), pad_get (by omega) hi, if_pos q]
      · rw [List.getElem?_append_right (by rw [List.length_take, pad_len (by omega)]; omega), List.length_take, pad_len (by omega), List.getElem?_drop, show N.toNat + (i - min N.toNat 64) = i by omega, pad_get (by omega) hi, if_neg q]
    generalize (pad n).take N.toNat ++ (pad o).drop N.toNat = s at *
    rw [loop_eqF (b := mementolaw3_DiskTorn_L1 o n N s) (s := 0) (fun s => ∃ i : Nat, i ≤ 64 ∧ s = (i : Int)) (fun s => 64 - s.toNat) (fun _ => .go ()) ⟨0, by omega, rfl⟩ (by simp)]
    · rfl
    rintro _ ⟨i, hi, rfl⟩
    simp only [mementolaw3_DiskTorn_L1]
    by_cases hi6 : i < 64
    · right
      have elem : ∀ l : List Int, (if decide ((i : Int) < (l.length : Int)) = true then (idx l (i : Int)).bind fun x => some x else some 0) = some (l.getD i 0) := fun l => by
        by_cases q : i < l.length
        · rw [if_pos (by simpa using q), idx_at q, List.getD_eq_getElem?_getD, List.getElem?_eq_getElem q]; rfl
        · rw [if_neg (by simpa using q), List.getD_eq_getElem?_getD, List.getElem?_eq_none (by omega)]; rfl
      have esel : (if decide ((i : Int) < N) = true then some (n.getD i 0) else some (o.getD i 0)) = some (if (i : Int) < N then n.getD i 0 else o.getD i 0) := by
        by_cases q : (i : Int) < N
        · rw [if_pos (by simpa using q), if_pos q]
        · rw [if_neg (by simpa using q), if_neg q]
      rw [if_pos (by simp; omega), elem o, Option.bind_some, elem n, Option.bind_some, esel, Option.bind_some, if_neg (by simp [hlen]), idx_nat, hget i hi6]
      simp only [Option.bind_some, bne_self_eq_false, Bool.false_eq_true, if_false]
      rw [next3 (by omega)]
      exact ⟨_, rfl, ⟨i + 1, hi6, rfl⟩, by simp only [Int.toNat_natCast]; omega, trivial⟩
    · left
      rw [if_neg (by simp; omega)]
      rfl
  obtain ⟨T, hT, rfl⟩ := hN
  obtain ⟨t48, q1, hT⟩ := bind_some hT
  obtain ⟨t11, q2, hT⟩ := bind_some hT
  obtain ⟨t1144, q3, hT⟩ := bind_some hT
  cases hT
  rw [q1, Option.bind_some, q2, Option.bind_some, q3, Option.bind_some]
  exact fin
end Go.Proofs.Yteclchefihcjkaa.Am
