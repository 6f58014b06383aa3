/- Numbers of few bytes, lumps of bytes: the laws. -/
import Derived.Test.YtmcofekpjjmjmaaL1a
namespace Go.Proofs.Ytmcofekpjjmjmaa.Am
open Go
set_option linter.unusedVariables false
set_option linter.unusedSimpArgs false

def nbI (n : Nat) : List Int := if h : n < 128 then [] else ((n % 128 + 128 : Nat) : Int) :: nbI (n / 128)
termination_by n
decreasing_by omega
def lastD (n : Nat) : Nat := if h : n < 128 then n else lastD (n / 128)
termination_by n
decreasing_by omega
/-- A number's bytes. -/
def nb (n : Nat) : List Int := nbI n ++ [(lastD n : Int)]

theorem nbI_lo {n : Nat} (h : n < 128) : nbI n = [] := by rw [nbI, dif_pos h]
theorem nbI_hi {n : Nat} (h : ¬ n < 128) : nbI n = ((n % 128 + 128 : Nat) : Int) :: nbI (n / 128) := by rw [nbI, dif_neg h]
theorem lastD_lo {n : Nat} (h : n < 128) : lastD n = n := by rw [lastD, dif_pos h]
theorem lastD_hi {n : Nat} (h : ¬ n < 128) : lastD n = lastD (n / 128) := by rw [lastD, dif_neg h]
theorem nb_lo {n : Nat} (h : n < 128) : nb n = [(n : Int)] := by rw [nb, nbI_lo h, lastD_lo h]; rfl
theorem nb_hi {n : Nat} (h : ¬ n < 128) : nb n = ((n % 128 + 128 : Nat) : Int) :: nb (n / 128) := by rw [nb, nbI_hi h, lastD_hi h]; rfl
theorem nbI_len : ∀ (k n : Nat), n < 128 ^ (k + 1) → (nbI n).length ≤ k
  | 0, n, h => by rw [nbI_lo (by omega)]; simp
  | k + 1, n, h => by
    by_cases h0 : n < 128
    · rw [nbI_lo h0]; simp
    · rw [nbI_hi h0, List.length_cons]
      have : n / 128 < 128 ^ (k + 1) := Nat.div_lt_of_lt_mul (by rw [Nat.pow_succ'] at h; exact h)
      have := nbI_len k (n / 128) this
      omega
theorem nbI_len9 {n : Nat} (h : n < 18446744073709551616) : (nbI n).length ≤ 9 := nbI_len 9 n (by omega)
theorem lastD_lt (n : Nat) : lastD n < 128 := by
  induction n using Nat.strongRecOn with
  | _ n ih =>
    by_cases h : n < 128
    · rw [lastD_lo h]; exact h
    · rw [lastD_hi h]; exact ih _ (by omega)
theorem nbI_mem (n : Nat) : ∀ c ∈ nbI n, 128 ≤ c ∧ c < 256 := by
  induction n using Nat.strongRecOn with
  | _ n ih =>
    by_cases h : n < 128
    · rw [nbI_lo h]; intro c hc; cases hc
    · rw [nbI_hi h]
      intro c hc
      rcases List.mem_cons.1 hc with rfl | hc
      · omega
      · exact ih _ (by omega) c hc
theorem nb_byt (n : Nat) : Byt (nb n) := by
  intro c hc
  rcases List.mem_append.1 hc with hc | hc
  · have := nbI_mem n c hc; omega
  · have := lastD_lt n; simp at hc; omega
theorem nb_len {n : Nat} (h : n < 18446744073709551616) : (nb n).length ≤ 10 ∧ 1 ≤ (nb n).length := by
  have := nbI_len9 h; simp [nb]; omega

def U64 (l : List Int) : Prop := ∀ x ∈ l, 0 ≤ x ∧ x < 18446744073709551616
def putS (l : List Int) : List Int := (l.map fun x => nb x.toNat).flatten

theorem put2_eq {out : List Int} {n : Nat} (hn : n < 18446744073709551616) (hl : out.length ≤ 1000000) : loopN pack_Put_L2 fuel (out, (n : Int)) = some (out ++ nbI n, (lastD n : Int)) := by
  have h9 := nbI_len9 hn
  refine (loop_eqF (s := (out, (n : Int))) (fun s : List Int × Int => ∃ m : Nat, s.2 = (m : Int) ∧ m < 18446744073709551616 ∧ s.1.length + (nbI m).length ≤ 1000009) (fun s => (nbI s.2.toNat).length) (fun s => (s.1 ++ nbI s.2.toNat, (lastD s.2.toNat : Int)))
    ⟨n, rfl, hn, by simp only; omega⟩ (by simp; omega) ?_).trans (by simp)
  rintro ⟨o, _⟩ ⟨m, rfl, hm, hlen⟩
  simp only [Int.toNat_natCast] at hlen ⊢
  dsimp only [pack_Put_L2]
  by_cases h : m < 128
  · left
    rw [if_neg (by simp; omega), nbI_lo h, lastD_lo h]
    simp [early]
  · right
    rw [if_pos (by simp; omega)]
    rw [nbI_hi h] at hlen
    rw [app_of (by simp at hlen ⊢; omega) (by simp at hlen ⊢; omega)]
    have e1 : IntKind.wrap .u8 (m : Int) = ((m % 256 : Nat) : Int) := by rw [IntKind.wrap_u8]; omega
    have e2 := (bits8 (x := ((m % 256 : Nat) : Int)) (by omega) (by omega)).1
    have e3 : shrI (m : Int) 7 = ((m / 128 : Nat) : Int) := by unfold shrI; omega
    rw [e1, e2, e3, nbI_hi h, lastD_hi h]
    have e4 : ((m % 256 : Nat) : Int) % 128 + 128 = ((m % 128 + 128 : Nat) : Int) := by omega
    refine ⟨_, rfl, ⟨m / 128, rfl, by omega, by simp only [List.length_append, List.length_cons, List.length_nil] at hlen ⊢; omega⟩, by simp only [Int.toNat_natCast, List.length_cons]; omega, ?_⟩
    simp only [Int.toNat_natCast, List.append_assoc, e4, List.cons_append, List.nil_append]

theorem putS_len {l : List Int} (h : U64 l) : (putS l).length ≤ 10 * l.length := by
  induction l with
  | nil => simp [putS]
  | cons x l ih =>
    have h1 := ih fun y hy => h y (List.mem_cons_of_mem _ hy)
    have h2 := h x (List.mem_cons_self ..)
    have := (nb_len (n := x.toNat) (by omega)).1
    simp only [putS, List.map_cons, List.flatten_cons, List.length_append, List.length_cons] at h1 ⊢
    omega
theorem putS_byt (l : List Int) : Byt (putS l) := by
  intro c hc
  obtain ⟨q, hq, hc⟩ := List.mem_flatten.1 hc
  obtain ⟨x, _, rfl⟩ := List.mem_map.1 hq
  exact nb_byt _ c hc
theorem putS_app (a b : List Int) : putS (a ++ b) = putS a ++ putS b := by simp [putS]
theorem putS_one (x : Int) : putS [x] = nb x.toNat := by simp [putS]

theorem put_eq {l : List Int} (h : U64 l) (hl : l.length ≤ 1000) : pack_Put l = some (putS l) := by
  unfold pack_Put
  rw [loop_eqF (s := (([] : List Int), 0)) (fun s => ∃ k : Nat, s = (putS (l.take k), (k : Int)) ∧ k ≤ l.length) (fun s => (l.length - s.2).toNat) (fun _ => putS l) ⟨0, by simp [putS], by omega⟩ (by simp; omega)]
  · rfl
  rintro _ ⟨k, rfl, hk⟩
  dsimp only [pack_Put_L1]
  by_cases hkl : k < l.length
  · right
    have hx := h _ (List.getElem_mem hkl)
    have hlen := putS_len (l := l.take k) fun x hx => h x (List.mem_of_mem_take hx)
    rw [List.length_take] at hlen
    rw [if_pos (by simpa using hkl), idx_at hkl]
    simp only [Option.bind_some]
    obtain ⟨n, hn⟩ := Int.eq_ofNat_of_zero_le hx.1
    rw [hn, put2_eq (by omega) (by omega)]
    simp only [Option.bind_some]
    have h9 := nbI_len9 (n := n) (by omega)
    have e1 : IntKind.wrap .u8 (lastD n : Int) = (lastD n : Int) := by rw [IntKind.wrap_u8]; have := lastD_lt n; omega
    rw [e1, app_of (by simp; omega) (by simp; omega)]
    refine ⟨(putS (l.take (k + 1)), ((k + 1 : Nat) : Int)), ?_, ⟨k + 1, rfl, hkl⟩, by simp only; omega, by first | trivial | rfl⟩
    simp only [Option.bind_some, Option.some.injEq, Ctl.go.injEq, Prod.mk.injEq]
    refine ⟨?_, by rw [wrap64 (by omega) (by omega)]; omega⟩
    rw [List.take_succ_eq_append_getElem hkl, putS_app, putS_one, hn, List.append_assoc]
    rfl
  · left
    have : k = l.length := by omega
    subst this
    rw [if_neg (by simp)]
    simp [early]
theorem refPut_is : mementoref1_Put = pack_Put := rfl

def lumpS (b : List Int) : List Int := nb b.length ++ b
theorem lumpP_eq {b : List Int} (h : b.length ≤ 1000) : pack_Lump b = some (lumpS b) := by
  unfold pack_Lump
  rw [wrap64u (by omega) (by omega), put_eq (fun x hx => by simp at hx; omega) (by simp), putS_one]
  have := (nb_len (n := b.length) (by omega)).1
  simp only [Option.bind_some, Int.toNat_natCast]
  rw [app_of (by omega) (by omega)]
  rfl
theorem refLumpP_is : mementoref1_Lump = pack_Lump := rfl
theorem lumpS_len {b : List Int} (h : b.length ≤ 1000) : (lumpS b).length ≤ b.length + 10 := by
  have := (nb_len (n := b.length) (by omega)).1
  simp [lumpS]; omega
theorem lumpS_byt {b : List Int} (h : Byt b) : Byt (lumpS b) := fun c hc => (List.mem_append.1 hc).elim (nb_byt _ c) (h c)

theorem join_eq {l : List (List Int)} (hl : l.length ≤ 1000) (hf : l.flatten.length ≤ 1000000) : pack_Join l = some l.flatten := by
  unfold pack_Join slices_Concat_Lbyte_byte
  have hpre : ∀ k, (l.take k).flatten.length ≤ l.flatten.length := fun k => by
    have : l.flatten = (l.take k).flatten ++ (l.drop k).flatten := by rw [← List.flatten_append, List.take_append_drop]
    rw [this]; simp
  have hstep : ∀ {k : Nat} (h : k < l.length), (l.take (k + 1)).flatten = (l.take k).flatten ++ l[k] := fun h => by rw [List.take_succ_eq_append_getElem h, List.flatten_append]; simp
  rw [loop_eqF (s := (0, 0)) (fun s => ∃ k : Nat, s = (((l.take k).flatten.length : Int), (k : Int)) ∧ k ≤ l.length) (fun s => (l.length - s.2).toNat) (fun _ => (l.flatten.length : Int)) ⟨0, by simp, by omega⟩ (by simp; omega)]
  · simp only [Option.bind_some]
    have hg : slices_Grow_Lbyte_byte_nil (l.flatten.length : Int) = some [] := by
      unfold slices_Grow_Lbyte_byte_nil
      have e1 : IntKind.wrap .i64 ((l.flatten.length : Int) - IntKind.wrap .i64 (0 - 0)) = (l.flatten.length : Int) := by
        rw [wrap64 (n := 0 - 0) (by omega) (by omega), wrap64 (by omega) (by omega)]; omega
      rw [if_neg (by simp), e1]
      split
      · unfold mkz slc
        rw [if_pos (by simp), if_pos (by omega)]
        rfl
      · rfl
    rw [hg]
    simp only [Option.bind_some]
    rw [loop_eqF (s := (([] : List Int), 0)) (fun s => ∃ k : Nat, s = ((l.take k).flatten, (k : Int)) ∧ k ≤ l.length) (fun s => (l.length - s.2).toNat) (fun _ => l.flatten) ⟨0, by simp, by omega⟩ (by simp; omega)]
    · rfl
    rintro _ ⟨k, rfl, hk⟩
    dsimp only [slices_Concat_Lbyte_byte_L2]
    by_cases hkl : k < l.length
    · right
      have h1 := hpre (k + 1)
      rw [hstep hkl, List.length_append] at h1
      rw [if_pos (by simpa using hkl), idx_at hkl]
      simp only [Option.bind_some]
      rw [app_of (by omega) (by omega)]
      refine ⟨((l.take (k + 1)).flatten, ((k + 1 : Nat) : Int)), ?_, ⟨k + 1, rfl, hkl⟩, by simp only; omega, by first | trivial | rfl⟩
      simp only [Option.bind_some, Option.some.injEq, Ctl.go.injEq, Prod.mk.injEq]
      exact ⟨(hstep hkl).symm, by rw [wrap64 (by omega) (by omega)]; omega⟩
    · left
      have : k = l.length := by omega
      subst this
      rw [if_neg (by simp)]
      simp [early]
  rintro _ ⟨k, rfl, hk⟩
  dsimp only [slices_Concat_Lbyte_byte_L1]
  by_cases hkl : k < l.length
  · right
    have h1 := hpre (k + 1)
    rw [hstep hkl, List.length_append] at h1
    rw [if_pos (by simpa using hkl), idx_at hkl]
    simp only [Option.bind_some]
    have e1 : IntKind.wrap .i64 (((l.take k).flatten.length : Int) + (l[k].length : Int)) = ((l.take (k + 1)).flatten.length : Int) := by
      rw [wrap64 (by omega) (by omega), hstep hkl, List.length_append]; omega
    rw [e1, if_neg (by simp)]
    refine ⟨(((l.take (k + 1)).flatten.length : Int), ((k + 1 : Nat) : Int)), ?_, ⟨k + 1, rfl, hkl⟩, by simp only; omega, by first | trivial | rfl⟩
    simp only [Option.some.injEq, Ctl.go.injEq, Prod.mk.injEq, true_and]
    rw [wrap64 (by omega) (by omega)]; omega
  · left
    have : k = l.length := by omega
    subst this
    rw [if_neg (by simp)]
    simp [early]

theorem new_eq {b : List Int} (h : b.length ≤ 1000000) : pack_New b = some (rdP (b, 0)) := by unfold pack_New; rw [clone1 h]; rfl

theorem edge_eq {n k : Int} (hn : 0 ≤ n ∧ n < 18446744073709551616) (hk : 0 ≤ k ∧ k < 256) : ∃ e, mementolaw1_edge n k = some e ∧ 0 ≤ e ∧ e < 18446744073709551616 := by
  unfold mementolaw1_edge remI
  rw [wrap64 (by omega) (by omega)]
  have hm : k.tmod ((12 : Nat) : Int) = ((k.toNat % 12 : Nat) : Int) := by rw [Int.tmod_eq_emod_of_nonneg hk.1]; omega
  simp only [List.length_cons, List.length_nil]
  rw [if_neg (by decide)]
  simp only [Option.bind_some]
  have e : ((0 + 1 + 1 + 1 + 1 + 1 + 1 + 1 + 1 + 1 + 1 + 1 + 1 : Nat) : Int) = ((12 : Nat) : Int) := rfl
  rw [e, hm, idx_nat]
  have hlt : k.toNat % 12 < 12 := Nat.mod_lt _ (by decide)
  have hU : U64 [n, shrI n 32, shrI n 57, 0, 1, 127, 128, 16383, 16384, 9223372036854775807, 9223372036854775808, 18446744073709551615] := by
    intro x hx
    unfold shrI at hx
    simp only [List.mem_cons, List.not_mem_nil, or_false] at hx
    omega
  generalize hq : [n, shrI n 32, shrI n 57, 0, 1, 127, 128, 16383, 16384, 9223372036854775807, 9223372036854775808, 18446744073709551615] = q at hU
  have hql : q.length = 12 := by rw [← hq]; rfl
  rw [List.getElem?_eq_getElem (by omega)]
  exact ⟨_, rfl, hU _ (List.getElem_mem _)⟩

theorem known1 : mementolaw1_known = some true := by kernel_rfl

/-! What was put is read -/
theorem nR_short : ∀ (l : List Int) (i : Nat) (n : Int), (∀ c ∈ l, 128 ≤ c) → i + l.length ≤ 9 → nR l i n = .go ()
  | [], _, _, _, _ => rfl
  | c :: r, i, n, h, hi => by
    simp only [List.length_cons] at hi
    unfold nR
    rw [if_neg (by omega), if_pos (h c (List.mem_cons_self ..))]
    exact nR_short r (i + 1) _ (fun x hx => h x (List.mem_cons_of_mem _ hx)) (by omega)

theorem nR_nb (t : List Int) : ∀ (n i : Nat) (acc : Int), i ≤ 9 → 0 ≤ acc → acc < 2 ^ (7 * i) → acc + n * 2 ^ (7 * i) < 18446744073709551616 → (0 < i → 0 < n) → nR (nb n ++ t) i acc = .ret (acc + n * 2 ^ (7 * i), i + (nb n).length, 0) := by
  intro n
  induction n using Nat.strongRecOn with
  | _ n ih =>
    intro i acc hi a0 a1 a2 hp
    have p : (0 : Int) < 2 ^ (7 * i) := by exact_mod_cast Nat.two_pow_pos (7 * i)
    by_cases h : n < 128
    · rw [nb_lo h]
      simp only [List.cons_append, List.nil_append, List.length_cons, List.length_nil]
      unfold nR
      rw [if_neg, if_neg (by omega), if_neg (by omega)]
      · have e : ((n : Int) % 128) = n := by omega
        rw [e, orS_add hi a0 a1 (by omega) (by omega)]
      · rintro ⟨rfl, h1⟩
        have e : (2 : Int) ^ (7 * 9) = 9223372036854775808 := by decide
        rw [e] at a2
        omega
    · rw [nb_hi h]
      have hi8 : i ≤ 8 := by
        apply Classical.byContradiction
        intro hc
        have : i = 9 := by omega
        subst this
        have e : (2 : Int) ^ (7 * 9) = 9223372036854775808 := by decide
        rw [e] at a2
        omega
      simp only [List.cons_append, List.length_cons]
      unfold nR
      have ep : (2 : Int) ^ (7 * (i + 1)) = 128 * 2 ^ (7 * i) := by rw [Nat.mul_add, Int.pow_add, Int.mul_comm]; rfl
      have hmul : ((n % 128 : Nat) : Int) * 2 ^ (7 * i) + ((n / 128 : Nat) : Int) * (128 * 2 ^ (7 * i)) = n * 2 ^ (7 * i) := by
        rw [← Int.mul_assoc, ← Int.add_mul]
        congr 1
        omega
      have hm1 : ((n % 128 : Nat) : Int) * 2 ^ (7 * i) ≤ 127 * 2 ^ (7 * i) := Int.mul_le_mul_of_nonneg_right (by omega) (Int.le_of_lt p)
      have hm0 : 0 ≤ ((n % 128 : Nat) : Int) * 2 ^ (7 * i) := Int.mul_nonneg (by omega) (Int.le_of_lt p)
      have hm2 : 0 ≤ ((n / 128 : Nat) : Int) * (128 * 2 ^ (7 * i)) := Int.mul_nonneg (by omega) (by omega)
      rw [if_neg (by omega), if_pos (by omega)]
      have e : ((n % 128 + 128 : Nat) : Int) % 128 = ((n % 128 : Nat) : Int) := by omega
      rw [e, orS_add hi a0 a1 (by omega) (by omega), ih (n / 128) (by omega) (i + 1) _ (by omega) (by omega) (by rw [ep]; omega) (by rw [ep]; omega) (by omega)]
      rw [ep]
      simp only [Ctl.ret.injEq, Prod.mk.injEq, and_true]
      exact ⟨by omega, by omega⟩

theorem nR_put (t : List Int) {e : Int} (h0 : 0 ≤ e) (h1 : e < 18446744073709551616) : nR (nb e.toNat ++ t) 0 0 = .ret (e, (nb e.toNat).length, 0) := by
  obtain ⟨n, rfl⟩ := Int.eq_ofNat_of_zero_le h0
  rw [Int.toNat_natCast, nR_nb t n 0 0 (by omega) (by omega) (by simp) (by simpa using h1) (by omega)]
  simp

/-- A number is read. -/
theorem numR_put (t : List Int) {e : Int} (h0 : 0 ≤ e) (h1 : e < 18446744073709551616) (most : Int) : numR (nb e.toNat ++ t, 0) most = if e > most then (0, [], 22) else (e, t, 0) := by
  unfold numR
  rw [if_neg (by simp)]
  simp only [nR_put t h0 h1, ne_eq, not_true_eq_false, if_false]
  split
  · rfl
  · simp

/-- A lump is read. -/
theorem lumpR_put (t b : List Int) (hb : b.length ≤ 1000) {most : Int} (hm : (b.length : Int) ≤ most) (hm2 : most < 18446744073709551616) : lumpR (lumpS b ++ t, 0) most = (b, t, 0) := by
  unfold lumpR lumpS
  have e : IntKind.wrap .u64 (maxI most 0) = most := by
    have : maxI most 0 = most := by unfold maxI; split <;> omega
    rw [this, wrap64u (by omega) hm2]
  have h := numR_put (b ++ t) (e := (b.length : Int)) (by omega) (by omega) most
  rw [Int.toNat_natCast, if_neg (by omega)] at h
  rw [e, List.append_assoc, h]
  simp
  omega

end Go.Proofs.Ytmcofekpjjmjmaa.Am
