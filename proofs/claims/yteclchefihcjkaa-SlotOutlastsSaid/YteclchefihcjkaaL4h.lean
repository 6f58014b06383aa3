/- Slots on a disk: whatever crash comes while one is set, the elder one counts, or it: the law. -/
import Derived.Test.YteclchefihcjkaaL4g
namespace Go.Proofs.Yteclchefihcjkaa.Am
open Go
set_option linter.unusedVariables false
set_option linter.unusedSimpArgs false
set_option maxRecDepth 100000

/-- Both disks behind the crash. -/
theorem outl_key {n : Nat} {qa qb ca cb ga gb ra rb : Nat} (hca : ca = n + 1) (hcb : cb = n + 2) (hn : n ≤ 4294967295) (hra : ra ≤ 1) (hrb : rb ≤ 1) (hga : ga < 18446744073709551616) (hgb : gb < 18446744073709551616)
    (hqa : IntKind.wrap .i64 (Int.tmod (ca : Int) 2) = (qa : Int)) (hqb : IntKind.wrap .i64 (Int.tmod (cb : Int) 2) = (qb : Int)) (hq : qa = 0 ∧ qb = 1 ∨ qa = 1 ∧ qb = 0) {pp mask torn : Int} (hp : pp = -1 ∨ pp = 0 ∨ pp = 1 ∨ pp = 2) (hm : U64 mask) :
    ∃ d1 w1 e d3 w3 d4 w4, slot_Set ⟨3, [], [], [], -1⟩ ⟨ca, ga, ra⟩ = some (0, d1) ∧ mementoref3_Set ⟨[Z64, Z64, Z64], [], -1⟩ ⟨ca, ga, ra⟩ = some (0, w1) ∧
      slot_Set ⟨d1.n, d1.sure, d1.now, d1.l, pp⟩ ⟨cb, gb, rb⟩ = some (e, d3) ∧ mementoref3_Set ⟨w1.S, w1.l, pp⟩ ⟨cb, gb, rb⟩ = some (e, w3) ∧
      pdisk_Disk_Crash d3 mask torn = some d4 ∧ mementoref3_Disk_Crash w3 mask torn = some w4 ∧
      ∃ s : Slot_Slot, slot_Choose d4 = some (s, true) ∧ mementoref3_Choose w4 = some (⟨s.Count, s.Gen, s.Area⟩, true) ∧ ((e = 0 ∧ s = ⟨cb, gb, rb⟩) ∨ (e = 26 ∧ (s = ⟨cb, gb, rb⟩ ∨ s = ⟨ca, ga, ra⟩))) := by
  have n0 : DiskOk ⟨3, [], [], [], -1⟩ := new3_ok (by omega)
  have qa1 : qa ≤ 1 := by omega
  have qb1 : qb ≤ 1 := by omega
  have qne : qa ≠ qb := by omega
  have la := ptS_len ca ga ra
  have lb := ptS_len cb gb rb
  have e1 := set3_ok (g := ga) n0 rfl hra qa1 hqa (.inl rfl)
  have f1 := wset_ok (S := [Z64, Z64, Z64]) (p := -1) (g := ga) rfl hra qa1 hqa (.inl rfl)
  have ha : (0 : Int) ≤ qa ∧ (qa : Int) < 3 := by omega
  have hb : (0 : Int) ≤ qb ∧ (qb : Int) < 3 := by omega
  have ok1 := fl_ok (wr_ok n0 (i := (qa : Int)) (b := ptS ca ga ra) ha (by omega))
  have rd1 : ∀ j : Int, rdD (flD (wrD ⟨3, [], [], [], -1⟩ qa (ptS ca ga ra))) j = if (qa : Int) = j then ptS ca ga ra else Z64 := fun j => by
    rw [rd_fl (wr_ok n0 (i := (qa : Int)) (b := ptS ca ga ra) ha (by omega)), rd_wr, pad64 la]
    rfl
  generalize hd1 : flD (wrD ⟨3, [], [], [], -1⟩ qa (ptS ca ga ra)) = d1 at *
  have d1n : d1.n = 3 := by rw [← hd1]; rfl
  have d1w : d1.now = [] := by rw [← hd1]; rfl
  have d1l : d1.l = [] := by rw [← hd1]; rfl
  have w1p : wdec (wdec (-1)) = -1 := by decide
  rw [w1p] at f1
  have ok2 : DiskOk ⟨d1.n, d1.sure, d1.now, d1.l, pp⟩ := ⟨ok1.n, ok1.now, ok1.sure, ok1.kn, ok1.ks, ok1.l, ok1.len, by simp only; omega⟩
  have su2 : ∀ j : Int, sureD ⟨d1.n, d1.sure, d1.now, d1.l, pp⟩ j = if (qa : Int) = j then ptS ca ga ra else Z64 := fun j => by
    rw [← rd1 j]
    unfold rdD sureD
    rw [d1w]
    rfl
  have rd2 : ∀ j : Int, rdD ⟨d1.n, d1.sure, d1.now, d1.l, pp⟩ j = if (qa : Int) = j then ptS ca ga ra else Z64 := fun j => by rw [← rd1 j]; rfl
  have d2n : (⟨d1.n, d1.sure, d1.now, d1.l, pp⟩ : Pdisk_Disk).n = 3 := d1n
  have d2l : (⟨d1.n, d1.sure, d1.now, d1.l, pp⟩ : Pdisk_Disk).l = [] := d1l
  have d2p : (⟨d1.n, d1.sure, d1.now, d1.l, pp⟩ : Pdisk_Disk).power = pp := rfl
  generalize hd2 : (⟨d1.n, d1.sure, d1.now, d1.l, pp⟩ : Pdisk_Disk) = d2 at *
  generalize hS1 : ([Z64, Z64, Z64].set qa (ptS ca ga ra)) = S1 at *
  have S1l : S1.length = 3 := by rw [← hS1]; simp
  have S1a : S1[qa]? = some (ptS ca ga ra) := by rw [← hS1]; exact set_some (by simp; omega)
  have S1b : S1[qb]? = some Z64 := by
    rw [← hS1]
    refine set_other ?_ qne
    rcases hq with ⟨rfl, rfl⟩ | ⟨rfl, rfl⟩ <;> rfl
  have qai : ((qb : Int) = (qa : Int)) = False := by rw [eq_iff_iff, iff_false]; omega
  have qbi : ((qa : Int) = (qb : Int)) = False := by rw [eq_iff_iff, iff_false]; omega
  have rpb := read_pt (c := cb) (g := gb) (a := rb) (by omega) (by omega) hgb hrb
  have bpb := ptS_byt cb gb rb
  refine ⟨d1, ⟨S1, [], -1⟩, ?_⟩
  rw [hd2]
  rcases hp with hp | hp | hp | hp
  · -- all of it is done
    have e2 := set3_ok (g := gb) ok2 d2n hrb qb1 hqb (.inl (by rw [d2p, hp]))
    have f2 := wset_ok (S := S1) (p := pp) (g := gb) S1l hrb qb1 hqb (.inl hp)
    have okw := wr_ok ok2 (i := (qb : Int)) (b := ptS cb gb rb) (by rw [d2n]; exact hb) (by omega)
    have ok3 := fl_ok okw
    have rd3 : ∀ j : Int, rdD (crD (flD (wrD d2 qb (ptS cb gb rb))) mask torn) j = if (qb : Int) = j then ptS cb gb rb else if (qa : Int) = j then ptS ca ga ra else Z64 := fun j => by
      rw [cr_nil ok3 rfl]
      have : sureD (flD (wrD d2 qb (ptS cb gb rb))) j = rdD (flD (wrD d2 qb (ptS cb gb rb))) j := rfl
      rw [this, rd_fl okw, rd_wr, pad64 lb, rd2]
    obtain ⟨s, c1, c2, c3⟩ := pick_eq (cr_ok ok3 mask torn) (S := S1.set qb (ptS cb gb rb)) (by unfold crD flD wrD; exact d2n) (by simp [S1l]) hq (ca := ca) (ga := ga) (ra := ra) (cb := cb) (gb := gb) (rb := rb) (X := ptS cb gb rb) (by rw [rd3]; simp only [qai, if_false, if_true]) (by rw [rd3]; simp only [if_true]) (set_other S1a (Ne.symm qne)) (set_some (by omega)) bpb (by omega) (by omega) (by omega) hga hra rpb (fun _ => rfl)
    exact ⟨0, _, _, _, _, e1, f1, e2, f2, crash_eq ok3 hm, wcrash0 (by simp [S1l]), s, c1, c2, .inl ⟨rfl, c3⟩⟩
  · -- no power
    have e2 := set3_0 (g := gb) ok2 d2n hrb qb1 hqb (by rw [d2p, hp])
    have f2 := wset_0 (S := S1) (p := pp) (g := gb) S1l hrb qb1 hqb hp
    obtain ⟨s, c1, c2, c3⟩ := pick_eq (cr_ok ok2 mask torn) (S := S1) (by unfold crD; exact d2n) S1l hq (ca := ca) (ga := ga) (ra := ra) (cb := cb) (gb := gb) (rb := rb) (X := Z64) (by rw [cr_nil ok2 d2l, su2]; simp only [if_true]) (by rw [cr_nil ok2 d2l, su2]; simp only [qbi, if_false]) S1a S1b Z64_byt (by omega) (by omega) (by omega) hga hra read_Z (fun h => by cases h)
    exact ⟨26, _, _, _, _, e1, f1, e2, f2, crash_eq ok2 hm, wcrash0 (by omega), s, c1, c2, .inr ⟨rfl, .inr c3⟩⟩
  · -- it is written, and not flushed
    have e2 := set3_1 (g := gb) ok2 d2n hrb qb1 hqb (by rw [d2p, hp])
    have f2 := wset_1 (S := S1) (p := pp) (g := gb) S1l hrb qb1 hqb hp
    have okw := wr_ok ok2 (i := (qb : Int)) (b := ptS cb gb rb) (by rw [d2n]; exact hb) (by omega)
    have wl : (wrD d2 qb (ptS cb gb rb)).l = [⟨qb, ptS cb gb rb⟩] := by unfold wrD; simp only; rw [d2l, pad64 lb]; rfl
    have sw : ∀ j : Int, sureD (wrD d2 qb (ptS cb gb rb)) j = if (qa : Int) = j then ptS ca ga ra else Z64 := fun j => su2 j
    have S1b' : S1[qb]'(by omega) = Z64 := by rw [List.getElem?_eq_getElem (by omega)] at S1b; exact Option.some.inj S1b
    have wc := wcrash1 (S := S1) (p := 0) (mask := mask) (torn := torn) (i := qb) (b := ptS cb gb rb) (by omega) hm (by omega) lb (by rw [S1b']; exact Z64_len)
    rw [S1b'] at wc
    have cn : (crD (wrD d2 qb (ptS cb gb rb)) mask torn).n = 3 := by unfold crD wrD; exact d2n
    have rda := cr_one okw wl mask torn (qa : Int)
    have rdb := cr_one okw wl mask torn (qb : Int)
    simp only [sw, qai, qbi, if_false, if_true] at rda rdb
    have X0 : ∃ X sx ok, rdD (crD (wrD d2 qb (ptS cb gb rb)) mask torn) qb = X ∧ (if bitM mask 0 = true then S1.set qb (if 0 ≤ torn ∧ torn < 64 then (ptS cb gb rb).take torn.toNat ++ Z64.drop torn.toNat else ptS cb gb rb) else S1)[qb]? = some X ∧ Byt X ∧ slot_Read X = some (sx, ok) ∧ (ok = true → sx = ⟨cb, gb, rb⟩) := by
      rw [rdb]
      cases hbit : bitM mask 0 with
      | false => exact ⟨_, _, _, rfl, S1b, Z64_byt, read_Z, fun h => by cases h⟩
      | true =>
        simp only [if_true]
        by_cases ht : 0 ≤ torn ∧ torn < 64
        · simp only [ht, and_self, if_true]
          have bT : Byt ((ptS cb gb rb).take torn.toNat ++ Z64.drop torn.toNat) := Byt.app (fun x h => bpb x (List.mem_of_mem_take h)) (fun x h => Z64_byt x (List.mem_of_mem_drop h))
          obtain ⟨sx, ok, r1, r2⟩ := same_read bT
          exact ⟨_, sx, ok, rfl, set_some (by omega), bT, r1, fun h => by subst h; exact read_torn (by omega) hgb hrb (by omega) r1⟩
        · simp only [ht, if_false]
          exact ⟨_, _, _, rfl, set_some (by omega), bpb, rpb, fun _ => rfl⟩
    obtain ⟨X, sx, ok, x1, x2, x3, x4, x5⟩ := X0
    have Sa : (if bitM mask 0 = true then S1.set qb (if 0 ≤ torn ∧ torn < 64 then (ptS cb gb rb).take torn.toNat ++ Z64.drop torn.toNat else ptS cb gb rb) else S1)[qa]? = some (ptS ca ga ra) := by
      cases bitM mask 0 with
      | false => exact S1a
      | true => exact set_other S1a (Ne.symm qne)
    have Sl : (if bitM mask 0 = true then S1.set qb (if 0 ≤ torn ∧ torn < 64 then (ptS cb gb rb).take torn.toNat ++ Z64.drop torn.toNat else ptS cb gb rb) else S1).length = 3 := by
      cases bitM mask 0 with
      | false => exact S1l
      | true => simp [S1l]
    have ra' : rdD (crD (wrD d2 qb (ptS cb gb rb)) mask torn) qa = ptS ca ga ra := by rw [rda]; split <;> rfl
    obtain ⟨s, c1, c2, c3⟩ := pick_eq (cr_ok okw mask torn) cn Sl hq (ca := ca) (ga := ga) (ra := ra) (cb := cb) (gb := gb) (rb := rb) ra' x1 Sa x2 x3 (by omega) (by omega) (by omega) hga hra x4 x5
    refine ⟨26, _, _, _, _, e1, f1, e2, f2, crash_eq okw hm, wc, s, c1, c2, .inr ⟨rfl, ?_⟩⟩
    rw [c3]
    cases ok with
    | false => exact .inr rfl
    | true => exact .inl rfl
  · -- all of it is done
    have e2 := set3_ok (g := gb) ok2 d2n hrb qb1 hqb (.inr (by rw [d2p, hp]))
    have f2 := wset_ok (S := S1) (p := pp) (g := gb) S1l hrb qb1 hqb (.inr hp)
    have okw := wr_ok ok2 (i := (qb : Int)) (b := ptS cb gb rb) (by rw [d2n]; exact hb) (by omega)
    have ok3 := fl_ok okw
    have rd3 : ∀ j : Int, rdD (crD (flD (wrD d2 qb (ptS cb gb rb))) mask torn) j = if (qb : Int) = j then ptS cb gb rb else if (qa : Int) = j then ptS ca ga ra else Z64 := fun j => by
      rw [cr_nil ok3 rfl]
      have : sureD (flD (wrD d2 qb (ptS cb gb rb))) j = rdD (flD (wrD d2 qb (ptS cb gb rb))) j := rfl
      rw [this, rd_fl okw, rd_wr, pad64 lb, rd2]
    obtain ⟨s, c1, c2, c3⟩ := pick_eq (cr_ok ok3 mask torn) (S := S1.set qb (ptS cb gb rb)) (by unfold crD flD wrD; exact d2n) (by simp [S1l]) hq (ca := ca) (ga := ga) (ra := ra) (cb := cb) (gb := gb) (rb := rb) (X := ptS cb gb rb) (by rw [rd3]; simp only [qai, if_false, if_true]) (by rw [rd3]; simp only [if_true]) (set_other S1a (Ne.symm qne)) (set_some (by omega)) bpb (by omega) (by omega) (by omega) hga hra rpb (fun _ => rfl)
    exact ⟨0, _, _, _, _, e1, f1, e2, f2, crash_eq ok3 hm, wcrash0 (by simp [S1l]), s, c1, c2, .inl ⟨rfl, c3⟩⟩

theorem slotOutlasts_eq {a0 a1 a2 a3 a4 a5 a6 : Int} (h0 : Ik .u32 a0) (h1 : Ik .u64 a1) (h2 : Ik .u64 a2) (h3 : Ik .u8 a3) (h4 : Ik .u8 a4) (h5 : Ik .u64 a5) : mementolaw4_SlotOutlasts a0 a1 a2 a3 a4 a5 a6 = some true := by
  have m2 : IntKind.u64.max = 18446744073709551615 := by decide
  have m1 : IntKind.u64.min = 0 := by decide
  have f0 : 0 ≤ a0 := h0.1
  have f1 : a0 ≤ 4294967295 := h0.2
  obtain ⟨n, rfl⟩ := Int.eq_ofNat_of_zero_le f0
  obtain ⟨g0, g1⟩ := h1
  obtain ⟨k0, k1⟩ := h2
  obtain ⟨b0, b1⟩ := h5
  obtain ⟨ga, rfl⟩ := Int.eq_ofNat_of_zero_le (show 0 ≤ a1 by omega)
  obtain ⟨gb, rfl⟩ := Int.eq_ofNat_of_zero_le (show 0 ≤ a2 by omega)
  have u3 := h3.u8
  have u4 := h4.u8
  have c1 : IntKind.wrap .u64 ((IntKind.wrap .u64 (n : Int)) + 1) = ((n + 1 : Nat) : Int) := by rw [wrap64u (n := (n : Int)) (by omega) (by omega), wrap64u (by omega) (by omega)]; omega
  have c2 : IntKind.wrap .u64 ((IntKind.wrap .u64 (n : Int)) + 2) = ((n + 2 : Nat) : Int) := by rw [wrap64u (n := (n : Int)) (by omega) (by omega), wrap64u (by omega) (by omega)]; omega
  have hra : ∃ ra : Nat, ra ≤ 1 ∧ IntKind.wrap .i64 (Int.tmod a3 2) = (ra : Int) := by
    rw [Int.tmod_eq_emod_of_nonneg u3.1, wrap64 (by omega) (by omega)]
    exact ⟨(a3 % 2).toNat, by omega, by omega⟩
  obtain ⟨ra, hra, era⟩ := hra
  have hrb : ∃ rb : Nat, rb ≤ 1 ∧ IntKind.wrap .i64 (Int.tmod (IntKind.wrap .u8 (Int.tdiv a3 2)) 2) = (rb : Int) := by
    rw [Int.tdiv_eq_ediv_of_nonneg u3.1, wrap8 (n := a3 / 2) (by omega) (by omega), Int.tmod_eq_emod_of_nonneg (by omega), wrap64 (by omega) (by omega)]
    exact ⟨(a3 / 2 % 2).toNat, by omega, by omega⟩
  obtain ⟨rb, hrb, erb⟩ := hrb
  have hpp : ∃ pp : Int, (pp = -1 ∨ pp = 0 ∨ pp = 1 ∨ pp = 2) ∧ IntKind.wrap .i64 ((IntKind.wrap .i64 (Int.tmod a4 4)) - 1) = pp := by
    rw [Int.tmod_eq_emod_of_nonneg u4.1, wrap64 (n := a4 % 4) (by omega) (by omega), wrap64 (by omega) (by omega)]
    exact ⟨_, by omega, rfl⟩
  obtain ⟨pp, hpp, epp⟩ := hpp
  have hqa : ∃ q : Nat, q = (n + 1) % 2 ∧ IntKind.wrap .i64 (Int.tmod ((n + 1 : Nat) : Int) 2) = (q : Int) := ⟨_, rfl, by rw [Int.tmod_eq_emod_of_nonneg (by omega), wrap64 (by omega) (by omega)]; omega⟩
  have hqb : ∃ q : Nat, q = (n + 2) % 2 ∧ IntKind.wrap .i64 (Int.tmod ((n + 2 : Nat) : Int) 2) = (q : Int) := ⟨_, rfl, by rw [Int.tmod_eq_emod_of_nonneg (by omega), wrap64 (by omega) (by omega)]; omega⟩
  obtain ⟨qa, qa1, qa2⟩ := hqa
  obtain ⟨qb, qb1, qb2⟩ := hqb
  obtain ⟨d1, w1, e, d3, w3, d4, w4, x1, x2, x3, x4, x5, x6, s, y1, y2, y3⟩ := outl_key (ga := ga) (gb := gb) (torn := a6) rfl rfl (show n ≤ 4294967295 by omega) hra hrb (by omega) (by omega) qa2 qb2 (by omega) hpp (mask := a5) ⟨by omega, by omega⟩
  unfold mementolaw4_SlotOutlasts
  rw [known4, Option.bind_some, if_neg (by simp), new3 (by omega), Option.bind_some, wnew_3, Option.bind_some, c1, c2, era, erb, epp]
  rw [x1, Option.bind_some]
  dsimp only [mementolaw4_as]
  rw [Option.bind_some, x2, Option.bind_some]
  dsimp only
  rw [if_neg (by simp)]
  have hmx : maxI pp (-1) = pp := by unfold maxI; split <;> omega
  unfold pdisk_Disk_Power mementoref3_Disk_Power
  rw [hmx, Option.bind_some, Option.bind_some, x3, Option.bind_some]
  dsimp only
  rw [Option.bind_some, x4, Option.bind_some]
  dsimp only
  rw [x5, Option.bind_some, x6, Option.bind_some, y1, Option.bind_some]
  dsimp only
  rw [y2, Option.bind_some]
  simp only [beq_self_eq_true, if_true, Option.bind_some, Bool.and_self]
  have hne : (((n + 2 : Nat) : Int) == ((n + 1 : Nat) : Int)) = false := by simp
  rcases y3 with ⟨rfl, rfl⟩ | ⟨rfl, rfl | rfl⟩
  · simp only [hne, Bool.false_and, Bool.false_eq_true, if_false, beq_self_eq_true, Bool.and_self, if_true]
    simp
  · simp only [hne, Bool.false_and, Bool.false_eq_true, if_false, beq_self_eq_true, Bool.and_self, if_true]
    simp
  · simp only [beq_self_eq_true, Bool.and_self, if_true]
    simp
end Go.Proofs.Yteclchefihcjkaa.Am
