/- A log kept twice: the law. -/
import Derived.Test.YteclchefihcjkaaL11i
import Derived.KernelRfl
namespace Go.Proofs.Yteclchefihcjkaa.Am
open Go
set_option linter.unusedVariables false
set_option linter.unusedSimpArgs false
set_option maxRecDepth 100000

theorem known5 : mementolaw5_known = some true := by kernel_rfl

/-! the disks at first -/
theorem newRef : mementoref3_NewDisk 20 = some ⟨List.replicate 20 Z64, [], -1⟩ := by
  kernel_rfl
theorem rel_new : Rel ⟨20, [], [], [], -1⟩ ⟨List.replicate 20 Z64, [], -1⟩ := by
  refine ⟨new3_ok (by omega), rfl, rfl, by simp, rfl, fun i hi => ?_, fun i hi => ?_⟩
  · rw [rd_new]
    show (List.replicate 20 Z64).getD i [] = Z64
    rw [List.getD_eq_getElem?_getD, List.getElem?_replicate_of_lt hi]
    rfl
  · rw [rd_new]
    intro x hx
    have := (List.mem_replicate.1 hx).2
    omega

section
variable {a0 : List (List Int)} {a1 : List Int} {a7 : Int}

/-- One generation. -/
theorem gen_eq {x : Int} (h : Ik .u64 x) (i : Nat) : ∃ g : Nat, g < 18446744073709551616 ∧ (if ((Int.tmod (i : Int) 5) == 4) then (some x) else (some (IntKind.wrap .u64 ((Int.tmod x 2) * 300)))) = some (g : Int) := by
  have m2 : IntKind.u64.max = 18446744073709551615 := by decide
  have m1 : IntKind.u64.min = 0 := by decide
  obtain ⟨p, q⟩ := h
  split
  · exact ⟨x.toNat, by omega, by rw [Int.toNat_of_nonneg (by omega)]⟩
  · have r1 := Int.tmod_lt_of_pos x (show (0 : Int) < 2 by omega)
    have r2 := Int.tmod_nonneg 2 (show 0 ≤ x by omega)
    rw [wrap64u (by omega) (by omega)]
    exact ⟨(x.tmod 2 * 300).toNat, by omega, by rw [Int.toNat_of_nonneg (by omega)]⟩

theorem putLoop (h0 : a0.length ≤ 8) (h1 : a0.length ≤ a1.length) (b0 : ∀ x ∈ a0, Byt x) (b1 : ∀ x ∈ a1, Ik .u64 x) (b7 : Ik .u16 a7) {n s : Nat} (hn : n ≤ 14) (hs : s ≤ 8) {d : Pdisk_Disk} {w : Mementoref3_Disk} (h : Rel d w) (hw : w.l.length = 0) :
    ∃ t, loopN (mementolaw5_WalPlays_L1 a0 a1 a7 n) fuel ((s : Int), 0, d, w) = some t ∧
      (t = .ret true ∨ ∃ (m : Nat) (d' : Pdisk_Disk) (w' : Mementoref3_Disk), t = .go ((m : Int), d', w') ∧ m ≤ 40 ∧ Rel d' w' ∧ w'.l.length ≤ 100) := by
  refine loop_QF (fun s => ∃ (i m : Nat) (d : Pdisk_Disk) (w : Mementoref3_Disk), s = ((m : Int), (i : Int), d, w) ∧ i ≤ a0.length ∧ m ≤ 24 ∧ Rel d w ∧ w.l.length ≤ 7 * i) (fun s => a0.length - s.2.1.toNat) _ ⟨0, s, d, w, rfl, by omega, by omega, h, by omega⟩ (by simp only; omega) ?_
  rintro _ ⟨i, m, d, w, rfl, hi, hm, h, hw⟩
  simp only [mementolaw5_WalPlays_L1]
  by_cases c : i < a0.length
  rotate_left
  · left
    rw [if_neg (by simpa using c)]
    exact ⟨_, rfl, .inr ⟨m, d, w, rfl, by omega, h, by omega⟩⟩
  rw [if_pos (by simpa using c), idx_at c, Option.bind_some]
  have hx0 := b0 _ (List.getElem_mem c)
  generalize hxb : a0[i] = x at hx0 ⊢
  by_cases cx : x.length > 200
  · left
    rw [if_pos (by simp only [decide_eq_true_eq]; omega)]
    exact ⟨_, rfl, .inl rfl⟩
  right
  obtain ⟨g, hg, eg⟩ := gen_eq (b1 _ (List.getElem_mem (show i < a1.length by omega))) i
  have z : ∃ k : Nat, k < 90 ∧ IntKind.wrap .i64 (Int.tmod a7 90) = (k : Int) := by
    have m2 : IntKind.u16.max = 65535 := by decide
    have m1 : IntKind.u16.min = 0 := by decide
    obtain ⟨p, q⟩ := b7
    have r1 := Int.tmod_lt_of_pos a7 (show (0 : Int) < 90 by omega)
    have r2 := Int.tmod_nonneg 90 (show 0 ≤ a7 by omega)
    rw [wrap64 (by omega) (by omega)]
    exact ⟨(a7.tmod 90).toNat, by omega, by rw [Int.toNat_of_nonneg (by omega)]⟩
  obtain ⟨k, hk, ek⟩ := z
  have em : mks 1 (0 : Int) (k : Int) = some (List.replicate k 0) := by unfold mks; rw [if_pos ⟨by omega, by omega, by omega⟩]; rfl
  have hlen : (x ++ List.replicate k (0 : Int)).length = x.length + k := by simp
  have hbx : Byt (x ++ List.replicate k (0 : Int)) := hx0.app fun y hy => by have := (List.mem_replicate.1 hy).2; omega
  obtain ⟨a, e, d', w', q1, q2, q3, q4, q5⟩ := append11 h (by omega) (g := g) (i := m) (n := 10 + n) hbx (by omega) (by omega) (by omega)
  have n1 := need_eq (l := [x ++ List.replicate k (0 : Int), x]) (by simp) (fun y hy => by
    rcases List.mem_cons.1 hy with rfl | hy
    · omega
    · simp at hy; subst hy; omega)
  have n2 := refNeed_eq (l := [x ++ List.replicate k (0 : Int), x]) (by simp) (fun y hy => by
    rcases List.mem_cons.1 hy with rfl | hy
    · exact ⟨hbx, by omega⟩
    · simp at hy; subst hy; exact ⟨hx0, by omega⟩)
  rw [show ((10 + n : Nat) : Int) = 10 + (n : Int) by omega] at q1 q2
  rw [if_neg (by simp only [decide_eq_true_eq]; omega), idx_at (by omega), Option.bind_some, eg, Option.bind_some, app_of (by simp; omega) (by simp; omega), Option.bind_some, List.nil_append, ek, em, Option.bind_some,
    app_of (by simp; omega) (by simp; omega), Option.bind_some, wrap64 (n := 10 + (n : Int)) (by omega) (by omega), q1, Option.bind_some]
  simp only
  rw [q2, Option.bind_some]
  simp only
  rw [if_neg (by simp), if_neg (by simp), n1, n2, Option.bind_some, Option.bind_some, Option.bind_some, if_neg (by simp)]
  by_cases ce : e = 0
  · obtain ⟨m', rfl, hm'⟩ := q5 ce
    subst ce
    rw [if_pos (by simp), kont_go', next3 (by omega)]
    exact ⟨_, rfl, ⟨i + 1, m', d', w', rfl, c, by omega, q3, by omega⟩, by simp only [Int.toNat_natCast]; omega⟩
  · rw [if_neg (by simpa using ce), kont_go', next3 (by omega)]
    exact ⟨_, rfl, ⟨i + 1, m, d', w', rfl, c, hm, q3, by omega⟩, by simp only [Int.toNat_natCast]; omega⟩

theorem twoGens {d : Pdisk_Disk} {w : Mementoref3_Disk} (h : Rel d w) (hw : w.l.length ≤ 10000) {x : A2_int} (hx : x.f0 ≤ 1000) (hy : x.f1 ≤ 9223372036854775807) : loopN (mementolaw5_WalPlays_L3 d w x) fuel 0 = some (.go ()) := by
  refine loop_eqF (s := (0 : Int)) (fun s => ∃ k : Nat, k ≤ 2 ∧ s = (k : Int)) (fun s => 2 - s.toNat) (fun _ => Ctl.go ()) ⟨0, by omega, rfl⟩ (by simp) ?_
  rintro _ ⟨k, hk, rfl⟩
  simp only [mementolaw5_WalPlays_L3]
  by_cases c : k < 2
  rotate_left
  · left
    rw [if_neg (by simp only [decide_eq_true_eq, List.length_cons, List.length_nil]; omega)]
    rfl
  right
  have e : ∃ g : Nat, g < 1000 ∧ idx ([0, 300] : List Int) (k : Int) = some (g : Int) := by
    rcases (show k = 0 ∨ k = 1 by omega) with rfl | rfl
    · exact ⟨0, by omega, rfl⟩
    · exact ⟨300, by omega, rfl⟩
  obtain ⟨g, hg, eg⟩ := e
  obtain ⟨o, q, s1, s2, s3⟩ := scan11 h hw (g := g) (by omega) hx hy
  rw [if_pos (by simp only [decide_eq_true_eq, List.length_cons, List.length_nil]; omega), eg, Option.bind_some, s1, Option.bind_some]
  simp only
  rw [s2, Option.bind_some]
  simp only
  rw [if_neg (by simp), bodies_self s3, Option.bind_some, Option.bind_some, if_neg (by simp), next3 (by omega)]
  exact ⟨_, rfl, ⟨k + 1, by omega, rfl⟩, by simp only [Int.toNat_natCast]; omega, trivial⟩
theorem pairsLoop {d : Pdisk_Disk} {w : Mementoref3_Disk} (h : Rel d w) (hw : w.l.length ≤ 10000) {a2 a3 : Int} (h3 : a3 ≤ 9223372036854775807) {s n m : Nat} (hs : s < 8) (hn : n < 14) (hm : m ≤ 40) :
    loopN (mementolaw5_WalPlays_L2 a2 a3 s n m d w) fuel 0 = some (.go ()) := by
  have e1 : IntKind.wrap .i64 (10 + (n : Int)) = 10 + (n : Int) := wrap64 (by omega) (by omega)
  have e2 : IntKind.wrap .i64 ((s : Int) + 1) = (s : Int) + 1 := wrap64 (by omega) (by omega)
  obtain ⟨L, hL⟩ : ∃ L : List A2_int, [(A2_int.mk s (IntKind.wrap .i64 (10 + (n : Int)))), (A2_int.mk a2 a3), (A2_int.mk s 20), (A2_int.mk (IntKind.wrap .i64 ((s : Int) + 1)) (IntKind.wrap .i64 (10 + (n : Int)))), (A2_int.mk s m)] = L := ⟨_, rfl⟩
  have hl : L.length = 5 := by rw [← hL]; rfl
  have hf : ∀ x ∈ L, x.f1 ≤ 9223372036854775807 := by
    rw [← hL, e1, e2]
    intro x hx
    simp only [List.mem_cons, List.not_mem_nil, or_false] at hx
    rcases hx with rfl | rfl | rfl | rfl | rfl <;> simp only <;> omega
  refine loop_eqF (s := (0 : Int)) (fun s => ∃ k : Nat, k ≤ 5 ∧ s = (k : Int)) (fun s => 5 - s.toNat) (fun _ => Ctl.go ()) ⟨0, by omega, rfl⟩ (by simp) ?_
  rintro _ ⟨k, hk, rfl⟩
  simp only [mementolaw5_WalPlays_L2]
  rw [hL]
  by_cases c : k < 5
  rotate_left
  · left
    rw [if_neg (by simp only [decide_eq_true_eq]; omega)]
    rfl
  right
  rw [if_pos (by simp only [decide_eq_true_eq]; omega), idx_at (by omega), Option.bind_some]
  have hx := hf _ (List.getElem_mem (show k < L.length by omega))
  generalize L[k]'(by omega) = x at hx ⊢
  refine ⟨((k + 1 : Nat) : Int), ?_, ⟨k + 1, by omega, rfl⟩, by simp only [Int.toNat_natCast]; omega, trivial⟩
  by_cases q : x.f0 > 1000
  · rw [if_pos (by simpa using q), Option.bind_some, if_pos rfl, kont_go', next3 (by omega)]
  rw [if_neg (by simpa using q), Option.bind_some]
  by_cases q2 : x.f0 < -1000
  · rw [decide_eq_true q2, if_pos rfl, kont_go', next3 (by omega)]
  rw [decide_eq_false q2, if_neg (by simp), twoGens h hw (by omega) hx, kont_go', kont_go', next3 (by omega)]

theorem walPlays_eq {a2 a3 a5 : Int} {a4 a6 : List Int} (h0 : ∀ x ∈ a0, ∀ y ∈ x, Ik .u8 y) (h1 : ∀ x ∈ a1, Ik .u64 x) (h2 : Ik .i64 a2) (h3 : Ik .i64 a3) (h4 : ∀ x ∈ a4, Ik .u8 x) (h5 : Ik .u8 a5) (h6 : ∀ x ∈ a6, Ik .u8 x) (h7 : Ik .u16 a7) :
    mementolaw5_WalPlays a0 a1 a2 a3 a4 a5 a6 a7 = some true := by
  unfold mementolaw5_WalPlays
  have m8 : IntKind.u8.max = 255 := by decide
  have n8 : IntKind.u8.min = 0 := by decide
  have m64 : IntKind.i64.max = 9223372036854775807 := by decide
  have by8 : ∀ {l : List Int}, (∀ y ∈ l, Ik .u8 y) → Byt l := fun h y hy => by
    obtain ⟨p, q⟩ := h y hy
    exact ⟨by omega, by omega⟩
  rw [known5, Option.bind_some, if_neg (by simp)]
  by_cases c0 : (a0.length : Int) > 8
  · rw [if_pos (by simpa using c0)]; rfl
  rw [if_neg (by simpa using c0)]
  by_cases c1 : (a1.length : Int) < (a0.length : Int)
  · rw [if_pos (by simpa using c1)]; rfl
  rw [if_neg (by simpa using c1)]
  by_cases c2 : (a4.length : Int) > 64
  · rw [if_pos (by simpa using c2)]; rfl
  rw [if_neg (by simpa using c2)]
  by_cases c3 : (a6.length : Int) > 64
  · rw [decide_eq_true c3]; rfl
  obtain ⟨s, hs, es⟩ := place_eq (n := 8) h2 (by omega) (by omega)
  obtain ⟨n, hn, en⟩ := place_eq (n := 14) h3 (by omega) (by omega)
  have es' : mementohelp_Place a2 8 = some (s : Int) := es
  have en' : mementohelp_Place a3 14 = some (n : Int) := en
  rw [decide_eq_false c3, Option.bind_some, if_neg (by simp), new3 (by omega), Option.bind_some, newRef, Option.bind_some, es', Option.bind_some, en', Option.bind_some]
  obtain ⟨t, ht, hq⟩ := putLoop (a0 := a0) (a1 := a1) (a7 := a7) (by omega) (by omega) (fun x hx => by8 (h0 x hx)) h1 h7 (n := n) (s := s) (by omega) (by omega) rel_new rfl
  rw [ht]
  rcases hq with rfl | ⟨m, d, w, rfl, hm, h, hw⟩
  · rfl
  rw [kont_go']
  simp only
  obtain ⟨p3, q3⟩ := h3
  rw [pairsLoop h (by omega) (by omega) hs hn hm, kont_go']
  obtain ⟨p5, q5⟩ := h5
  have z1 : ∃ k : Nat, k < 20 ∧ IntKind.wrap .i64 (Int.tmod a5 20) = (k : Int) := by
    have r1 := Int.tmod_lt_of_pos a5 (show (0 : Int) < 20 by omega)
    have r2 := Int.tmod_nonneg 20 (show 0 ≤ a5 by omega)
    rw [wrap64 (by omega) (by omega)]
    exact ⟨(a5.tmod 20).toNat, by omega, by rw [Int.toNat_of_nonneg (by omega)]⟩
  have z2 : ∃ k : Nat, k < 20 ∧ IntKind.wrap .i64 (IntKind.wrap .u8 (Int.tdiv a5 20)) = (k : Int) := by
    have e : Int.tdiv a5 20 = a5 / 20 := Int.tdiv_eq_ediv_of_nonneg (by omega)
    have e8 : IntKind.wrap .u8 (a5 / 20) = a5 / 20 := by
      refine wrapU rfl (by omega) ?_
      have : (2 : Int) ^ IntKind.u8.bits = 256 := by decide
      omega
    rw [e, e8, wrap64 (by omega) (by omega)]
    exact ⟨(a5 / 20).toNat, by omega, by rw [Int.toNat_of_nonneg (by omega)]⟩
  obtain ⟨i1, hi1, e1⟩ := z1
  obtain ⟨i2, hi2, e2⟩ := z2
  obtain ⟨u1, u2, u3⟩ := rel_write h (by omega) hi1 (b := a4) (by omega) (by8 h4)
  obtain ⟨v1, v2, v3⟩ := rel_write u3 (by simp only [List.length_append, List.length_cons, List.length_nil]; omega) hi2 (b := a6) (by omega) (by8 h6)
  rw [e1, e2, u1, Option.bind_some]
  simp only
  rw [u2, Option.bind_some]
  simp only
  rw [v1, Option.bind_some]
  simp only
  rw [v2, Option.bind_some]
  simp only
  obtain ⟨o, q, s1, s2, s3⟩ := scan11 v3 (by simp only [List.length_append, List.length_cons, List.length_nil]; omega) (g := 300) (a := (s : Int)) (b := 10 + (n : Int)) (by omega) (by omega) (by omega)
  have g3 : ((300 : Nat) : Int) = 300 := rfl
  rw [g3] at s1 s2
  rw [wrap64 (n := 10 + (n : Int)) (by omega) (by omega), s1, Option.bind_some]
  simp only
  rw [s2, Option.bind_some]
  simp only
  rw [if_pos (by simp), bodies_self s3]
  rfl
end
end Go.Proofs.Yteclchefihcjkaa.Am
