/- The laws of numbers and lumps: what is put comes back; what any looks tell. -/
import Derived.Test.YtmcofekpjjmjmaaL1c
namespace Go.Proofs.Ytmcofekpjjmjmaa.Am
open Go
set_option linter.unusedVariables false
set_option linter.unusedSimpArgs false

theorem edge_fun {k : Int} (hk : 0 ≤ k ∧ k < 256) : ∃ f : Int → Int, ∀ n, 0 ≤ n → n < 18446744073709551616 → mementolaw1_edge n k = some (f n) ∧ 0 ≤ f n ∧ f n < 18446744073709551616 :=
  ⟨fun n => (mementolaw1_edge n k).getD 0, fun n h0 h1 => by
    obtain ⟨e, he, e0, e1⟩ := edge_eq ⟨h0, h1⟩ hk
    simp only [he, Option.getD_some, true_and]
    exact ⟨e0, e1⟩⟩

def encP (f : Int → Int) (p : Int × List Int) : List Int := nb (f p.1).toNat ++ (nb p.1.toNat ++ lumpS p.2)
def encs (f : Int → Int) (z : List (Int × List Int)) : List Int := (z.map (encP f)).flatten
theorem encs_take {f : Int → Int} {z : List (Int × List Int)} {j : Nat} (h : j < z.length) : encs f (z.take (j + 1)) = encs f (z.take j) ++ encP f z[j] := by
  unfold encs; rw [List.take_succ_eq_append_getElem h]; simp only [List.map_append, List.flatten_append, List.map_cons, List.map_nil, List.flatten_cons, List.flatten_nil, List.append_nil]
theorem encs_drop {f : Int → Int} {z : List (Int × List Int)} {j : Nat} (h : j < z.length) : encs f (z.drop j) = encP f z[j] ++ encs f (z.drop (j + 1)) := by
  unfold encs; rw [← List.getElem_cons_drop h]; simp only [List.map_cons, List.flatten_cons]
theorem encs_part (f : Int → Int) (z : List (Int × List Int)) (j : Nat) : (encs f (z.drop j)).length ≤ (encs f z).length := by
  have : encs f z = encs f (z.take j) ++ encs f (z.drop j) := by unfold encs; rw [← List.flatten_append, ← List.map_append, List.take_append_drop]
  rw [this]; simp

theorem packBack_eq {a0 : List Int} {a1 : List (List Int)} {k : Int} (h0 : ∀ x ∈ a0, Ik .u64 x) (h1 : ∀ x ∈ a1, ∀ y ∈ x, Ik .u8 y) (hk : Ik .u8 k) : mementolaw1_PackBack a0 a1 k = some true := by
  unfold mementolaw1_PackBack
  rw [known1]
  simp only [Option.bind_some, Bool.not_true, Bool.false_eq_true, if_false]
  by_cases la : a1.length ≤ 8
  rotate_left
  · have g1 : decide ((a1.length : Int) > 8) = true := by simp; omega
    simp only [g1]; rfl
  have g1 : decide ((a1.length : Int) > 8) = false := by simp; omega
  by_cases lb : a1.length ≤ a0.length
  rotate_left
  · have g2 : decide ((a0.length : Int) < (a1.length : Int)) = true := by simp; omega
    simp only [g1, g2]; rfl
  have g2 : decide ((a0.length : Int) < (a1.length : Int)) = false := by simp; omega
  simp only [g1, g2, Bool.false_eq_true, if_false, Option.bind_some]
  have u0 := u64_of h0
  have b1 : ∀ x ∈ a1, Byt x := fun x hx => byt8 (h1 x hx)
  obtain ⟨f, hf⟩ := edge_fun (k := k) (by have := hk.u8; omega)
  have hzl : (a0.zip a1).length = a1.length := by simp; omega
  have hz : ∀ {j : Nat} (h : j < a1.length), (a0.zip a1)[j]'(by omega) = (a0[j]'(by omega), a1[j]) := fun h => by simp
  have henc : ∀ {j : Nat} (h : j < a1.length), a1[j].length ≤ 40 → (encP f (a0[j]'(by omega), a1[j])).length ≤ 100 ∧ Byt (encP f (a0[j]'(by omega), a1[j])) := fun {j} h hl => by
    have q := u0 _ (List.getElem_mem (show j < a0.length by omega))
    have e := hf _ q.1 q.2
    have n1 := nb_len (n := (f (a0[j]'(by omega))).toNat) (by omega)
    have n2 := nb_len (n := (a0[j]'(by omega)).toNat) (by omega)
    have n3 := lumpS_len (b := a1[j]) (by omega)
    refine ⟨by simp only [encP, List.length_append]; omega, fun c hc => ?_⟩
    rcases List.mem_append.1 hc with hc | hc
    · exact nb_byt _ c hc
    · rcases List.mem_append.1 hc with hc | hc
      · exact nb_byt _ c hc
      · exact lumpS_byt (b1 _ (List.getElem_mem h)) c hc
  obtain ⟨r, hr, hp⟩ := loop_exF (b := mementolaw1_PackBack_L1 a0 a1 k) (s := ([], 0))
    (fun s => ∃ j : Nat, s = (encs f ((a0.zip a1).take j), (j : Int)) ∧ j ≤ a1.length ∧ (∀ x ∈ a1.take j, x.length ≤ 40) ∧ (encs f ((a0.zip a1).take j)).length ≤ 100 * j ∧ Byt (encs f ((a0.zip a1).take j)))
    (fun s => (a1.length - s.2).toNat) (fun r => r = .ret true ∨ r = .go (encs f (a0.zip a1)) ∧ (∀ x ∈ a1, x.length ≤ 40) ∧ (encs f (a0.zip a1)).length ≤ 1000 ∧ Byt (encs f (a0.zip a1)))
    ⟨0, by simp [encs], by omega, by simp, by simp [encs], by simp [encs, Byt]⟩ (by simp; omega) (by
    rintro _ ⟨j, rfl, hj, hx, hlen, hbyt⟩
    dsimp only [mementolaw1_PackBack_L1]
    by_cases hjl : j < a1.length
    · rw [if_pos (by simpa using hjl), idx_at hjl]
      simp only [Option.bind_some]
      by_cases h40 : a1[j].length ≤ 40
      · right
        have c40 : decide ((a1[j].length : Int) > 40) = false := by simp; omega
        have q := u0 _ (List.getElem_mem (show j < a0.length by omega))
        have e := hf _ q.1 q.2
        simp only [c40, Bool.false_eq_true, if_false]
        rw [idx_at (show j < a0.length by omega)]
        simp only [Option.bind_some]
        rw [e.1]
        simp only [Option.bind_some]
        rw [put_eq (fun x hx => by simp at hx; rcases hx with rfl | rfl <;> omega) (by simp), lumpP_eq (by omega)]
        simp only [Option.bind_some]
        have hput : putS [f (a0[j]'(by omega)), a0[j]'(by omega)] ++ lumpS a1[j] = encP f (a0[j]'(by omega), a1[j]) := by simp [putS, encP]
        have hen := henc hjl h40
        have hfl : [encs f ((a0.zip a1).take j), putS [f (a0[j]'(by omega)), a0[j]'(by omega)], lumpS a1[j]].flatten = encs f ((a0.zip a1).take (j + 1)) := by
          rw [encs_take (by omega), hz hjl, ← hput]; simp
        have hl2 : (encs f ((a0.zip a1).take (j + 1))).length ≤ 100 * (j + 1) := by
          rw [encs_take (by omega), hz hjl, List.length_append]; omega
        rw [join_eq (by simp) (by rw [hfl]; omega), hfl]
        refine ⟨(encs f ((a0.zip a1).take (j + 1)), ((j + 1 : Nat) : Int)), ?_, ⟨j + 1, rfl, hjl, fun x hx2 => ?_, hl2, ?_⟩, by simp only; omega⟩
        · simp only [Option.bind_some, Option.some.injEq, Ctl.go.injEq, Prod.mk.injEq, true_and]
          rw [wrap64 (by omega) (by omega)]; omega
        · rw [List.take_succ_eq_append_getElem hjl] at hx2
          rcases List.mem_append.1 hx2 with hx2 | hx2
          · exact hx x hx2
          · simp at hx2; subst hx2; exact h40
        · rw [encs_take (by omega), hz hjl]
          exact fun c hc => (List.mem_append.1 hc).elim (hbyt c) (hen.2 c)
      · left
        have c40 : decide ((a1[j].length : Int) > 40) = true := by simp; omega
        simp only [c40, if_true]
        exact ⟨_, rfl, .inl rfl⟩
    · left
      have : j = a1.length := by omega
      subst this
      rw [if_neg (by simp)]
      rw [List.take_of_length_le (by omega)] at hlen hbyt ⊢
      rw [List.take_length] at hx
      exact ⟨_, rfl, .inr ⟨rfl, hx, by omega, hbyt⟩⟩)
  rw [hr]
  rcases hp with rfl | ⟨rfl, hx, hlen, hbyt⟩
  · rfl
  simp only [kont]
  rw [new_eq (by omega)]
  simp only [Option.bind_some]
  have hloop : loopN (mementolaw1_PackBack_L2 a0 a1 k) fuel (0, (rdP (encs f (a0.zip a1), 0)).rest) = some (.go ⟨[], 0⟩) := by
    refine loop_eqF (fun s => ∃ j : Nat, s = ((j : Int), Pack_rest.mk (encs f ((a0.zip a1).drop j)) 0) ∧ j ≤ a1.length) (fun s => (a1.length - s.1).toNat) (fun _ => (Ctl.go ⟨[], 0⟩ : Ctl Bool Pack_rest)) ⟨0, by simp [rdP], by omega⟩ (by simp; omega) ?_
    rintro _ ⟨j, rfl, hj⟩
    dsimp only [mementolaw1_PackBack_L2]
    by_cases hjl : j < a1.length
    · right
      have h40 := hx _ (List.getElem_mem hjl)
      have q := u0 _ (List.getElem_mem (show j < a0.length by omega))
      have e := hf _ q.1 q.2
      have hen := encs_drop (f := f) (z := a0.zip a1) (j := j) (by omega)
      rw [hz hjl] at hen
      have hb : Byt (encs f ((a0.zip a1).drop j)) := by
        have : encs f (a0.zip a1) = encs f ((a0.zip a1).take j) ++ encs f ((a0.zip a1).drop j) := by unfold encs; rw [← List.flatten_append, ← List.map_append, List.take_append_drop]
        intro c hc; exact hbyt c (by rw [this]; exact List.mem_append_right _ hc)
      have hl := encs_part f (a0.zip a1) j
      simp only [encP, List.append_assoc] at hen
      generalize ht : encs f ((a0.zip a1).drop (j + 1)) = tail at hen
      rw [hen] at hb hl ⊢
      generalize hx0 : a0[j]'(by omega) = x at hen hb hl q e
      generalize hy0 : a1[j] = y at hen hb hl h40
      simp only [List.length_append] at hl
      have k1 : RdOk (nb (f x).toNat ++ (nb x.toNat ++ (lumpS y ++ tail)), 0) := ⟨hb, by simp only [List.length_append]; omega⟩
      have k2 : RdOk (nb x.toNat ++ (lumpS y ++ tail), 0) := ⟨fun c hc => hb c (List.mem_append_right _ hc), by simp only [List.length_append]; omega⟩
      have k3 : RdOk (lumpS y ++ tail, 0) := ⟨fun c hc => hb c (List.mem_append_right _ (List.mem_append_right _ hc)), by simp only [List.length_append]; omega⟩
      have p1 := packNum_eq k1 18446744073709551615
      have p2 := packNum_eq k2 x
      have p3 := packLump_eq k3 40
      rw [numR_put _ e.2.1 e.2.2, if_neg (by omega)] at p1
      rw [numR_put _ q.1 q.2, if_neg (by omega)] at p2
      rw [lumpR_put tail y (by omega) (by omega) (by omega)] at p3
      simp only [rdP] at p1 p2 p3
      rw [if_pos (by simpa using hjl), idx_at (show j < a0.length by omega), idx_at hjl, hx0, hy0]
      simp only [p1, p2, p3, Option.bind_some, e.1, bne_self_eq_false, Bool.false_eq_true, if_false, pack_rest_Err]
      refine ⟨(((j + 1 : Nat) : Int), Pack_rest.mk tail 0), ?_, ⟨j + 1, ?_, hjl⟩, by simp only; omega, by first | trivial | rfl⟩
      · simp only [Option.some.injEq, Ctl.go.injEq, Prod.mk.injEq, and_true]
        rw [wrap64 (by omega) (by omega)]; omega
      · rw [ht]
    · left
      have : j = a1.length := by omega
      subst this
      rw [if_neg (by simp), List.drop_eq_nil_of_le (by omega)]
      rfl
  rw [hloop]
  rfl

theorem get_mem {α : Type} {l : List α} {i : Nat} {x : α} (h : l[i]? = some x) : x ∈ l := List.mem_of_getElem? h

theorem packReads_eq {a0 a1 : List Int} {a2 : List (List Int)} {a3 : List Mementolaw1_Act} {k : Int} (h0 : ∀ x ∈ a0, Ik .u8 x) (h1 : ∀ x ∈ a1, Ik .u64 x) (h2 : ∀ x ∈ a2, ∀ y ∈ x, Ik .u8 y) (h3 : ∀ x ∈ a3, ok_Mementolaw1_Act x) (hk : Ik .u8 k) :
    mementolaw1_PackReads a0 a1 a2 a3 k = some true := by
  unfold mementolaw1_PackReads
  rw [known1]
  simp only [Option.bind_some, Bool.not_true, Bool.false_eq_true, if_false]
  by_cases l0 : a0.length ≤ 60
  rotate_left
  · have g : decide ((a0.length : Int) > 60) = true := by simp; omega
    simp only [g]; rfl
  have g0 : decide ((a0.length : Int) > 60) = false := by simp; omega
  by_cases l1 : a1.length ≤ 12
  rotate_left
  · have g : decide ((a1.length : Int) > 12) = true := by simp; omega
    simp only [g0, g]; rfl
  have g1 : decide ((a1.length : Int) > 12) = false := by simp; omega
  by_cases l2 : a2.length ≤ 6
  rotate_left
  · have g : decide ((a2.length : Int) > 6) = true := by simp; omega
    simp only [g0, g1, g]; rfl
  have g2 : decide ((a2.length : Int) > 6) = false := by simp; omega
  by_cases l3 : a3.length ≤ 30
  rotate_left
  · have g : decide ((a3.length : Int) > 30) = true := by simp; omega
    simp only [g0, g1, g2, g]; rfl
  have g3 : decide ((a3.length : Int) > 30) = false := by simp; omega
  simp only [g0, g1, g2, g3, Bool.false_eq_true, if_false, Option.bind_some]
  have b0 := byt8 h0
  have u1 := u64_of h1
  have b2 : ∀ x ∈ a2, Byt x := fun x hx => byt8 (h2 x hx)
  have hk8 := hk.u8
  -- lumps
  obtain ⟨r, hr, hp⟩ := loop_exF (b := mementolaw1_PackReads_L1 a2) (s := ([], [], 0))
    (fun s => ∃ (j : Nat) (b : List Int), s = (b, (a2.take j).flatten, (j : Int)) ∧ j ≤ a2.length ∧ b.length ≤ 50 * j ∧ Byt b ∧ (a2.take j).flatten.length ≤ 30 * j)
    (fun s => (a2.length - s.2.2).toNat) (fun r => r = .ret true ∨ ∃ b, r = .go (b, a2.flatten) ∧ b.length ≤ 300 ∧ Byt b ∧ a2.flatten.length ≤ 180)
    ⟨0, [], by simp, by omega, by simp, by simp [Byt], by simp⟩ (by simp; omega) (by
    rintro _ ⟨j, b, rfl, hj, hbl, hb, hfl⟩
    dsimp only [mementolaw1_PackReads_L1]
    by_cases hjl : j < a2.length
    · rw [if_pos (by simpa using hjl), idx_at hjl]
      simp only [Option.bind_some]
      by_cases h30 : a2[j].length ≤ 30
      · right
        have c30 : decide ((a2[j].length : Int) > 30) = false := by simp; omega
        have n3 := lumpS_len (b := a2[j]) (by omega)
        simp only [c30, Bool.false_eq_true, if_false, refLumpP_is]
        rw [lumpP_eq (by omega)]
        simp only [Option.bind_some, bne_self_eq_false, Bool.false_eq_true, if_false]
        rw [app_of (by omega) (by omega)]
        simp only [Option.bind_some]
        rw [app_of (by omega) (by omega)]
        have hst : (a2.take (j + 1)).flatten = (a2.take j).flatten ++ a2[j] := by rw [List.take_succ_eq_append_getElem hjl, List.flatten_append]; simp
        refine ⟨(b ++ lumpS a2[j], (a2.take (j + 1)).flatten, ((j + 1 : Nat) : Int)), ?_, ⟨j + 1, _, rfl, hjl, by simp; omega, fun c hc => (List.mem_append.1 hc).elim (hb c) (lumpS_byt (b2 _ (List.getElem_mem hjl)) c), by rw [hst, List.length_append]; omega⟩, by simp only; omega⟩
        simp only [Option.bind_some, Option.some.injEq, Ctl.go.injEq, Prod.mk.injEq, true_and, hst]
        rw [wrap64 (by omega) (by omega)]; omega
      · left
        have c30 : decide ((a2[j].length : Int) > 30) = true := by simp; omega
        simp only [c30, if_true]
        exact ⟨_, rfl, .inl rfl⟩
    · left
      have : j = a2.length := by omega
      subst this
      rw [if_neg (by simp)]
      rw [List.take_length] at hfl ⊢
      exact ⟨_, rfl, .inr ⟨b, rfl, by omega, hb, by omega⟩⟩)
  rw [hr]
  rcases hp with rfl | ⟨b, rfl, hbl, hb, hfl⟩
  · rfl
  simp only [kont]
  rw [join_eq (by omega) (by omega), refPut_is, put_eq u1 (by omega)]
  simp only [Option.bind_some, bne_self_eq_false, Bool.false_eq_true, if_false]
  -- numbers
  obtain ⟨b3, hr3, hb3l, hb3⟩ := loop_exF (b := mementolaw1_PackReads_L2 a1 k) (s := (b, 0))
    (fun s => ∃ (j : Nat) (b : List Int), s = (b, (j : Int)) ∧ j ≤ a1.length ∧ b.length ≤ 300 + 10 * j ∧ Byt b)
    (fun s => (a1.length - s.2).toNat) (fun r => r.length ≤ 500 ∧ Byt r) ⟨0, b, rfl, by omega, by omega, hb⟩ (by simp; omega) (by
    rintro _ ⟨j, b, rfl, hj, hbl, hb⟩
    dsimp only [mementolaw1_PackReads_L2]
    by_cases hjl : j < a1.length
    · right
      rw [if_pos (by simpa using hjl), idx_at hjl]
      simp only [Option.bind_some]
      obtain ⟨e, he, e0, e1⟩ := edge_eq (n := a1[j]) (k := IntKind.wrap .u8 (k + IntKind.wrap .u8 (j : Int))) (u1 _ (List.getElem_mem hjl)) (by rw [IntKind.wrap_u8]; omega)
      rw [he]
      simp only [Option.bind_some]
      rw [refPut_is, put_eq (fun x hx => by simp at hx; omega) (by simp), putS_one]
      have n1 := nb_len (n := e.toNat) (by omega)
      simp only [Option.bind_some]
      rw [app_of (by omega) (by omega)]
      refine ⟨(b ++ nb e.toNat, ((j + 1 : Nat) : Int)), ?_, ⟨j + 1, _, rfl, hjl, by rw [List.length_append]; omega, fun c hc => (List.mem_append.1 hc).elim (hb c) (nb_byt _ c)⟩, by simp only; omega⟩
      simp only [Option.bind_some, Option.some.injEq, Ctl.go.injEq, Prod.mk.injEq, true_and]
      rw [wrap64 (by omega) (by omega)]; omega
    · left
      have : j = a1.length := by omega
      subst this
      rw [if_neg (by simp)]
      exact ⟨_, rfl, by omega, hb⟩)
  rw [hr3]
  simp only [Option.bind_some]
  rw [app_of (x := ([] : List Int)) (by simp; omega) (by simp; omega)]
  simp only [Option.bind_some, List.nil_append]
  rw [app_of (by omega) (by omega)]
  simp only [Option.bind_some]
  rw [app_of (by simp only [List.length_cons, List.length_nil]; omega) (by simp only [List.length_cons, List.length_nil]; omega)]
  simp only [Option.bind_some]
  have hall : ∀ x ∈ [a0, b3, b3 ++ a0, [128, 128, 128, 128, 128, 128, 128, 128, 128, k.tmod 4] ++ a0], Byt x ∧ x.length ≤ 1000 := by
    intro x hx
    simp only [List.mem_cons, List.not_mem_nil, or_false] at hx
    rcases hx with rfl | rfl | rfl | rfl
    · exact ⟨b0, by omega⟩
    · exact ⟨hb3, by omega⟩
    · exact ⟨fun c hc => (List.mem_append.1 hc).elim (hb3 c) (b0 c), by rw [List.length_append]; omega⟩
    · refine ⟨fun c hc => (List.mem_append.1 hc).elim (fun hc => ?_) (b0 c), by rw [List.length_append]; simp only [List.length_cons, List.length_nil]; omega⟩
      rw [Int.tmod_eq_emod_of_nonneg hk8.1] at hc
      simp only [List.mem_cons, List.not_mem_nil, or_false] at hc
      omega
  have hlen4 : [a0, b3, b3 ++ a0, [128, 128, 128, 128, 128, 128, 128, 128, 128, k.tmod 4] ++ a0].length = 4 := rfl
  -- readers
  have hL4 : ∀ x : List Int, Byt x → x.length ≤ 1000 → ∃ q, loopN (mementolaw1_PackReads_L4 a3) fuel (0, ⟨x, 0⟩, ⟨x, 0⟩) = some (.go q) := by
    intro x hx hxl
    obtain ⟨r, hr, q, rfl⟩ := loop_exF (b := mementolaw1_PackReads_L4 a3) (s := (0, ⟨x, 0⟩, ⟨x, 0⟩))
      (fun s => ∃ (j : Nat) (r : Rd), s = ((j : Int), ⟨r.1, r.2⟩, ⟨r.1, r.2⟩) ∧ j ≤ a3.length ∧ RdOk r) (fun s => (a3.length - s.1).toNat) (fun r => ∃ q, r = .go q) ⟨0, (x, 0), rfl, by omega, hx, by simp only; omega⟩ (by simp; omega) (by
      rintro _ ⟨j, r, rfl, hj, hr⟩
      dsimp only [mementolaw1_PackReads_L4]
      by_cases hjl : j < a3.length
      · right
        rw [if_pos (by simpa using hjl), idx_at hjl]
        simp only [Option.bind_some]
        have hm := (h3 _ (List.getElem_mem hjl))
        have hmost : 0 ≤ a3[j].Most := by have := hm.2.u64; omega
        generalize a3[j] = act at hm hmost
        obtain ⟨M, hM⟩ : ∃ M, (if (decide ((Int.tmod (j : Int) 3) > 0)) then ((idx ([31, 18446744073709551615, 127] : (List Int)) (Int.tmod act.Most 3)).bind fun x211 => (some x211)) else (some act.Most)) = some M := by
          split
          · obtain ⟨m, hm⟩ := Int.eq_ofNat_of_zero_le hmost
            have e : Int.tmod act.Most 3 = ((m % 3 : Nat) : Int) := by rw [hm]; rfl
            rw [e, idx_nat, List.getElem?_eq_getElem (by simp only [List.length_cons, List.length_nil]; omega)]
            exact ⟨_, rfl⟩
          · exact ⟨_, rfl⟩
        rw [hM]
        simp only [Option.bind_some]
        have ew : IntKind.wrap .i64 ((j : Int) + 1) = ((j + 1 : Nat) : Int) := by rw [wrap64 (by omega) (by omega)]; omega
        cases hL : act.Lump
        · have p1 := packNum_eq hr M
          have p2 := refNum_eq hr M
          have p3 := (num_ok hr M).1
          simp only [rdP, rdM] at p1 p2
          generalize numR r M = w at p1 p2 p3
          obtain ⟨v, r'⟩ := w
          simp only at p1 p2 p3
          refine ⟨(((j + 1 : Nat) : Int), ⟨r'.1, r'.2⟩, ⟨r'.1, r'.2⟩), ?_, ⟨j + 1, r', rfl, hjl, p3⟩, by simp only; omega⟩
          simp only [Bool.false_eq_true, if_false, p1, p2, Option.bind_some, bne_self_eq_false, kont, pack_rest_Err, pack_rest_Left, ew]
        · obtain ⟨T, hT⟩ : ∃ T, (if ((shrI M 60) == 15) then (some (-1)) else (some (IntKind.wrap .i64 (Go.bits .and .u64 M 4095)))) = some T := by split <;> exact ⟨_, rfl⟩
          have p1 := packLump_eq hr T
          have p2 := refLump_eq hr T
          have p3 := lump_ok hr T
          simp only [rdP, rdM] at p1 p2
          generalize lumpR r T = w at p1 p2 p3
          obtain ⟨v, r'⟩ := w
          simp only at p1 p2 p3
          refine ⟨(((j + 1 : Nat) : Int), ⟨r'.1, r'.2⟩, ⟨r'.1, r'.2⟩), ?_, ⟨j + 1, r', rfl, hjl, p3⟩, by simp only; omega⟩
          simp only [if_true, hT, Bool.false_eq_true, if_false, p1, p2, Option.bind_some, bne_self_eq_false, kont, pack_rest_Err, pack_rest_Left, ew]
      · left
        rw [if_neg (by simpa using hjl)]
        exact ⟨_, rfl, _, rfl⟩)
    exact ⟨q, hr⟩
  rw [loop_eqF (s := 0) (fun s => ∃ j : Nat, s = (j : Int) ∧ j ≤ 4) (fun s => (4 - s).toNat) (fun _ => (Ctl.go () : Ctl Bool Unit)) ⟨0, rfl, by omega⟩ (by simp)]
  rintro _ ⟨j, rfl, hj⟩
  dsimp only [mementolaw1_PackReads_L3]
  rw [hlen4]
  by_cases hj4 : j < 4
  · right
    rw [if_pos (by simp; omega), idx_at (by rw [hlen4]; exact hj4)]
    simp only [Option.bind_some]
    obtain ⟨hx1, hx2⟩ := hall _ (List.getElem_mem (show j < [a0, b3, b3 ++ a0, [128, 128, 128, 128, 128, 128, 128, 128, 128, k.tmod 4] ++ a0].length by rw [hlen4]; exact hj4))
    generalize [a0, b3, b3 ++ a0, [128, 128, 128, 128, 128, 128, 128, 128, 128, k.tmod 4] ++ a0][j]'_ = x at hx1 hx2
    obtain ⟨q, hq⟩ := hL4 x hx1 hx2
    rw [new_eq (by omega)]
    simp only [Option.bind_some, rdP]
    rw [hq]
    refine ⟨((j + 1 : Nat) : Int), ?_, ⟨j + 1, rfl, by omega⟩, by omega, by first | trivial | rfl⟩
    simp only [kont, Option.some.injEq, Ctl.go.injEq]
    rw [wrap64 (by omega) (by omega)]; omega
  · left
    have : j = 4 := by omega
    subst this
    rfl

end Go.Proofs.Ytmcofekpjjmjmaa.Am
