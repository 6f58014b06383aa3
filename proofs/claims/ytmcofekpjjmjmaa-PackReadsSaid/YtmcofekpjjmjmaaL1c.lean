/- The laws of numbers and lumps. -/
import Derived.Test.YtmcofekpjjmjmaaL1b
namespace Go.Proofs.Ytmcofekpjjmjmaa.Am
open Go
set_option linter.unusedVariables false
set_option linter.unusedSimpArgs false

theorem u64_of {l : List Int} (h : ∀ x ∈ l, Ik .u64 x) : U64 l := fun x hx => by have := (h x hx).u64; omega
theorem byt8 {l : List Int} (h : ∀ x ∈ l, Ik .u8 x) : Byt l := fun x hx => by have := (h x hx).u8; omega

theorem slc_pre {α : Type} (l : List α) {b : Nat} (h : b ≤ l.length) : slc l 0 (b : Int) = some (l.take b) := slc_nat l (a := 0) (Nat.zero_le _) h

theorem packParts_eq {a b : List Int} (ha : ∀ x ∈ a, Ik .u64 x) (hb : ∀ x ∈ b, Ik .u64 x) : mementolaw1_PackParts a b = some true := by
  unfold mementolaw1_PackParts
  rw [known1]
  simp only [Option.bind_some, Bool.not_true, Bool.false_eq_true, if_false]
  by_cases la : a.length ≤ 20
  · have g1 : decide ((a.length : Int) > 20) = false := by simp; omega
    by_cases lb : b.length ≤ 20
    · have g2 : decide ((b.length : Int) > 20) = false := by simp; omega
      have ua := u64_of ha
      have ub := u64_of hb
      have uab : U64 (a ++ b) := fun x hx => (List.mem_append.1 hx).elim (ua x) (ub x)
      have l1 := putS_len ua
      have l2 := putS_len ub
      have l3 := putS_len uab
      simp only [List.length_append] at l3
      simp only [g1, g2, Bool.false_eq_true, if_false, Option.bind_some]
      rw [app_of (x := ([] : List Int)) (by simp; omega) (by simp; omega)]
      simp only [Option.bind_some, List.nil_append]
      rw [app_of (by omega) (by omega)]
      simp only [Option.bind_some]
      rw [put_eq uab (by simp; omega), put_eq ua (by omega), put_eq ub (by omega)]
      simp only [Option.bind_some]
      rw [join_eq (by simp) (by simp; omega)]
      simp only [Option.bind_some]
      rw [join_eq (l := [putS (a ++ b)]) (by simp) (by simp; omega), join_eq (l := []) (by simp) (by simp)]
      simp [putS_app]
    · have g2 : decide ((b.length : Int) > 20) = true := by simp; omega
      simp only [g1, g2]; rfl
  · have g1 : decide ((a.length : Int) > 20) = true := by simp; omega
    simp only [g1]; rfl

theorem want_eq {n : Nat} (hn : n < 18446744073709551616) : loopN mementolaw1_PackShort_L1 fuel (1, ((n / 128 : Nat) : Int)) = some ((nb n).length : Int) := by
  have h9 := nbI_len9 hn
  obtain ⟨r, h1, rfl⟩ := loop_exF (b := mementolaw1_PackShort_L1) (s := (1, ((n / 128 : Nat) : Int))) (fun s => ∃ w m : Nat, s = ((w : Int), ((m / 128 : Nat) : Int)) ∧ w + (nbI m).length = (nb n).length) (fun s => ((nb n).length - s.1).toNat) (fun r => r = ((nb n).length : Int))
    ⟨1, n, rfl, by simp [nb]; omega⟩ (by simp [nb]; omega) (by
    rintro _ ⟨w, m, rfl, hw⟩
    have hl : (nb n).length = (nbI n).length + 1 := by simp [nb]
    dsimp only [mementolaw1_PackShort_L1]
    by_cases h : m < 128
    · left
      rw [nbI_lo h] at hw
      have e : m / 128 = 0 := by omega
      rw [e, if_neg (by decide)]
      exact ⟨_, rfl, by rw [← hw]; simp⟩
    · right
      rw [nbI_hi h, List.length_cons] at hw
      rw [if_pos (by simp; omega)]
      refine ⟨(((w + 1 : Nat) : Int), ((m / 128 / 128 : Nat) : Int)), ?_, ⟨w + 1, m / 128, rfl, by omega⟩, by simp only; omega⟩
      simp only [Option.some.injEq, Ctl.go.injEq, Prod.mk.injEq]
      exact ⟨by rw [wrap64 (by omega) (by omega)]; omega, by unfold shrI; omega⟩)
  exact h1

theorem packShort_eq {n k cut : Int} (hn : Ik .u64 n) (hk : Ik .u8 k) (hc : Ik .u8 cut) : mementolaw1_PackShort n k cut = some true := by
  unfold mementolaw1_PackShort
  obtain ⟨e, he, e0, e1⟩ := edge_eq (n := n) (k := k) (by have := hn.u64; omega) (by have := hk.u8; omega)
  have hc := hc.u8
  rw [known1, he]
  simp only [Option.bind_some, Bool.not_true, Bool.false_eq_true, if_false]
  rw [put_eq (fun x hx => by simp at hx; omega) (by simp), putS_one]
  obtain ⟨m, rfl⟩ := Int.eq_ofNat_of_zero_le e0
  have hm : m < 18446744073709551616 := by omega
  have es : shrI (m : Int) 7 = ((m / 128 : Nat) : Int) := by unfold shrI; omega
  simp only [Option.bind_some, Int.toNat_natCast, es, want_eq hm]
  have h9 := nbI_len9 hm
  have hl : (nb m).length = (nbI m).length + 1 := by simp [nb]
  have emax : maxI ((nb m).length : Int) 1 = ((nb m).length : Int) := by unfold maxI; split <;> omega
  have erem : remI (IntKind.wrap .i64 cut) ((nb m).length : Int) = some ((cut.toNat % (nb m).length : Nat) : Int) := by
    rw [wrap64 (by omega) (by omega)]
    unfold remI
    rw [if_neg (by omega), Int.tmod_eq_emod_of_nonneg (by omega)]
    obtain ⟨c, rfl⟩ := Int.eq_ofNat_of_zero_le hc.1
    simp
  have hlt : cut.toNat % (nb m).length < (nb m).length := Nat.mod_lt _ (by omega)
  generalize cut.toNat % (nb m).length = x at hlt erem
  rw [emax, erem]
  simp only [Option.bind_some]
  rw [slc_pre _ (by omega)]
  simp only [Option.bind_some]
  have htk : (nb m).take x = (nbI m).take x := by rw [nb, List.take_append_of_le_length (by omega)]
  rw [new_eq (by rw [List.length_take]; omega)]
  have hR : numR ((nb m).take x, 0) 18446744073709551615 = (0, [], 21) := by
    unfold numR
    rw [if_neg (by simp)]
    have hs := nR_short ((nbI m).take x) 0 0 (fun c hc => (nbI_mem m c (List.mem_of_mem_take hc)).1) (by rw [List.length_take]; omega)
    simp only [htk, hs]
  simp only [Option.bind_some, beq_self_eq_true, if_true]
  rw [packNum_eq (r := ((nb m).take x, 0)) ⟨fun c hc => nb_byt m c (List.mem_of_mem_take hc), by simp only [List.length_take]; omega⟩, hR]
  rfl

theorem packEnds_eq {n k : Int} {b : List Int} (hn : Ik .u64 n) (hk : Ik .u8 k) (hb : ∀ x ∈ b, Ik .u8 x) : mementolaw1_PackEnds n k b = some true := by
  unfold mementolaw1_PackEnds
  obtain ⟨e, he, e0, e1⟩ := edge_eq (n := n) (k := k) (by have := hn.u64; omega) (by have := hk.u8; omega)
  have hb := byt8 hb
  rw [known1, he]
  simp only [Option.bind_some, Bool.not_true, Bool.false_eq_true, if_false]
  by_cases hl : b.length ≤ 40
  · have g : decide ((b.length : Int) > 40) = false := by simp; omega
    simp only [g, Bool.false_eq_true, if_false]
    have hnb := nb_len (n := e.toNat) (by omega)
    rw [put_eq (fun x hx => by simp at hx; omega) (by simp), putS_one]
    simp only [Option.bind_some]
    rw [join_eq (by simp) (by simp; omega)]
    simp only [Option.bind_some, List.flatten_cons, List.flatten_nil, List.append_nil]
    rw [new_eq (by simp; omega)]
    have hok : RdOk (nb e.toNat ++ b, 0) := ⟨fun c hc => (List.mem_append.1 hc).elim (nb_byt _ c) (hb c), by simp; omega⟩
    have ok22 : RdOk ([], 22) := ⟨fun x hx => (by cases hx), by simp⟩
    simp only [Option.bind_some]
    by_cases hz : e = 0
    · subst hz
      rw [packNum_eq hok, numR_put _ (by omega) (by omega)]
      simp [rdP, pack_rest_Err, pack_rest_Left]
    · have hz' : (e == 0) = false := by simpa using hz
      have n1 := packNum_eq hok (e - 1)
      rw [numR_put _ e0 e1, if_pos (show e > e - 1 by omega)] at n1
      simp only [rdP] at n1
      have ew1 := wrap64u (n := e - 1) (by omega) (by omega)
      simp only [rdP, hz', Bool.false_eq_true, if_false, ew1, n1, Option.bind_some, bne_self_eq_false, pack_rest_Err, pack_rest_Left, List.length_nil]
      have n2 := packNum_eq ok22 18446744073709551615
      have r2 : numR ([], 22) 18446744073709551615 = (0, [], 22) := rfl
      rw [r2] at n2
      have l2 := packLump_eq ok22 9
      have s2 : lumpR ([], 22) 9 = ([], [], 22) := by
        unfold lumpR
        have : numR ([], 22) (IntKind.wrap .u64 (maxI 9 0)) = (0, [], 22) := rfl
        rw [this]; rfl
      rw [s2] at l2
      simp only [rdP] at n2 l2
      simp only [n2, l2, Option.bind_some, bne_self_eq_false, Bool.false_eq_true, if_false, List.length_nil, Int.natCast_zero, Int.ofNat_zero]
      rw [app_of (by simp; omega) (by simp; omega)]
      simp only [Option.bind_some, List.cons_append, List.nil_append]
      rw [lumpP_eq (by simp; omega)]
      simp only [Option.bind_some]
      have ew : IntKind.wrap .i64 (1 + (b.length : Int)) = ((1 + b.length : Nat) : Int) := by rw [wrap64 (by omega) (by omega)]; omega
      have hls : lumpS (1 :: b) = ((b.length + 1 : Nat) : Int) :: 1 :: b := by unfold lumpS; rw [List.length_cons, nb_lo (by omega)]; rfl
      rw [ew, hls, slc_pre _ (by simp; omega)]
      have htk : List.take (1 + b.length) (((b.length + 1 : Nat) : Int) :: 1 :: b) = nb (b.length + 1) ++ (1 :: b).take b.length := by
        rw [nb_lo (by omega), Nat.add_comm 1, List.take_succ_cons]; rfl
      simp only [Option.bind_some, htk]
      have hln : (nb (b.length + 1) ++ (1 :: b).take b.length).length ≤ 100 := by
        have := (nb_len (n := b.length + 1) (by omega)).1
        rw [List.length_append, List.length_take]; omega
      have ok3 : RdOk (nb (b.length + 1) ++ (1 :: b).take b.length, 0) := ⟨fun c hc => (List.mem_append.1 hc).elim (nb_byt _ c) (fun hc => by
        rcases List.mem_cons.1 (List.mem_of_mem_take hc) with rfl | hc
        · omega
        · exact hb c hc), by simp only; omega⟩
      rw [new_eq (by omega)]
      have s3 : lumpR (nb (b.length + 1) ++ (1 :: b).take b.length, 0) 99 = ([], [], 21) := by
        unfold lumpR
        have e99 : IntKind.wrap .u64 (maxI 99 0) = 99 := by decide
        have q := numR_put ((1 :: b).take b.length) (e := ((b.length + 1 : Nat) : Int)) (by omega) (by omega) 99
        rw [Int.toNat_natCast, if_neg (by omega)] at q
        rw [e99, q]
        simp
        omega
      have l3 := packLump_eq ok3 99
      rw [s3] at l3
      simp only [Option.bind_some]
      rw [l3]
      rfl
  · have g : decide ((b.length : Int) > 40) = true := by simp; omega
    simp only [g]; rfl

end Go.Proofs.Ytmcofekpjjmjmaa.Am
