/- Records behind a crash: a beginning of them is told. -/
import Derived.Test.YteclchefihcjkaaL6w3
namespace Go.Proofs.Yteclchefihcjkaa.Am
open Go
set_option linter.unusedVariables false
set_option linter.unusedSimpArgs false
set_option maxRecDepth 100000

theorem part_false {d : Pdisk_Disk} (hd : DiskOk d) {j : Nat} (hj : (j : Int) < d.n) {g : Int} {G : List Int} (hg : wal_num g = some G) (hG : G.length = 8)
    (h : (strOf ((rdD d j).take 8) == strOf G && strOf ((rdD d j).drop 56) == strOf G) = false) : ∃ z, wal_part d j g = some (z, false) := ⟨_, by rw [part_eq hd hj hg hG, h]⟩
theorem secs_form {G t s : List Int} (h : s ∈ secs G t) : ∃ p, s = sec G p := by
  unfold secs at h
  split at h
  · cases h
  · split at h
    · simp at h; exact ⟨_, h⟩
    · simp at h
      rcases h with h | h
      · exact ⟨_, h⟩
      · exact ⟨_, h⟩
theorem allS_form {G s : List Int} {bs : List (List Int)} (h : s ∈ allS G bs) : ∃ p, s = sec G p := by
  unfold allS at h
  obtain ⟨l, hl, hs⟩ := List.mem_flatten.1 h
  obtain ⟨b, _, rfl⟩ := List.mem_map.1 hl
  exact secs_form hs
theorem allS_le {G : List Int} : ∀ {bs : List (List Int)}, (∀ b ∈ bs, b.length ≤ 60) → (allS G bs).length ≤ 2 * bs.length
  | [], _ => by simp [allS]
  | b :: bs, h => by
    have ih := allS_le (G := G) (bs := bs) fun x hx => h x (List.mem_cons_of_mem _ hx)
    have hb := h b (List.mem_cons_self ..)
    have hk := secs_len G (recB b) (by rw [recB_len]; omega)
    rw [recB_len] at hk
    have e : allS G (b :: bs) = secs G (recB b) ++ allS G bs := by simp [allS]
    rw [e, List.length_append, List.length_cons]
    omega

def N9 : List Int := [9, 0, 0, 0, 0, 0, 0, 0]
theorem num9 : wal_num 9 = some N9 := by kernel_rfl
theorem N9_len : N9.length = 8 := rfl
theorem bad_Z : (strOf (Z64.take 8) == strOf N9 && strOf (Z64.drop 56) == strOf N9) = false := by decide
theorem torn9 (p : List Int) {t : Nat} (ht : t < 64) :
    (sec N9 p).take t ++ Z64.drop t = sec N9 p ∨ (strOf (((sec N9 p).take t ++ Z64.drop t).take 8) == strOf N9 && strOf (((sec N9 p).take t ++ Z64.drop t).drop 56) == strOf N9) = false := by
  have hl := sec_len N9_len p
  have hp := p48_len p
  have hz : Z64.drop t = List.replicate (64 - t) 0 := by unfold Z64; rw [List.drop_replicate]
  by_cases c : 57 ≤ t
  · left
    have e57 : (sec N9 p).drop 57 = List.replicate 7 0 := by
      unfold sec
      rw [List.drop_append, List.drop_eq_nil_of_le (by simp [N9, hp])]
      simp [N9, hp]
    have : (sec N9 p).drop t = List.replicate (64 - t) 0 := by
      have e : (sec N9 p).drop t = ((sec N9 p).drop 57).drop (t - 57) := by rw [List.drop_drop]; congr 1; omega
      rw [e, e57, List.drop_replicate]; congr 1; omega
    rw [hz, ← this, List.take_append_drop]
  · right
    have e : ((sec N9 p).take t ++ Z64.drop t).drop 56 = List.replicate 8 0 := by
      rw [hz, List.drop_append, List.drop_eq_nil_of_le (by rw [List.length_take]; omega), List.nil_append, List.drop_replicate, List.length_take]
      congr 1; omega
    rw [e]
    have : (strOf (List.replicate 8 (0 : Int)) == strOf N9) = false := by decide
    rw [this, Bool.and_false]

theorem walEnds_key {d : Pdisk_Disk} {sure l : List (List Int)} (h1 : ∀ b ∈ sure, b.length ≤ 60) (h2 : ∀ b ∈ l, b.length ≤ 60) (hs : sure.length ≤ 5) (hl : l.length ≤ 5)
    (hSt : St d 40 (allS N9 sure).length (allS N9 (sure ++ l))) {mask torn : Int} (hm : U64 mask) :
    ∃ D r o, pdisk_Disk_Crash d mask torn = some D ∧ wal_Scan D 0 40 9 = some ((sure ++ l).take r, o) ∧ sure.length ≤ r ∧ r ≤ (sure ++ l).length := by
  have hall : ∀ b ∈ sure ++ l, b.length ≤ 60 := fun b hb => (List.mem_append.1 hb).elim (h1 b) (h2 b)
  have hN := allS_le (G := N9) hall
  rw [List.length_append] at hN
  have hok := cr_ok hSt.ok mask torn
  have hn : (crD d mask torn).n = 40 := hSt.nn
  have hbad : ∀ j : Nat, j < 40 → rdD (crD d mask torn) j = Z64 → ∃ z, wal_part (crD d mask torn) (j : Int) 9 = some (z, false) := fun j hj e =>
    part_false hok (by rw [hn]; omega) num9 N9_len (by rw [e]; exact bad_Z)
  obtain ⟨r, k1, k2, k3, _⟩ := scan_eq (su := (allS N9 sure).length) (bs := sure ++ l) (n := 40) hok (by rw [hn]; exact Int.le_refl _) (by omega) num9 N9_len hall (by simp; omega) (by omega)
    (fun j hj hlt => by
      rcases hSt.crash mask torn j with e | ⟨_, h, _⟩
      · rw [dif_pos hlt] at e; exact e
      · omega)
    (fun j hj => by
      rcases hSt.crash mask torn j with e | ⟨_, h, e⟩
      · by_cases hlt : j < (allS N9 sure).length
        · rw [dif_pos hlt] at e; exact .inl e
        · rw [dif_neg hlt] at e; exact .inr (hbad j (by omega) e)
      · rcases e with e | ⟨t, ht, e⟩
        · exact .inl e
        · obtain ⟨p, hp⟩ := allS_form (List.getElem_mem hj)
          rw [hp] at e ⊢
          rcases torn9 p ht with q | q
          · rw [q] at e; exact .inl e
          · exact .inr (part_false hok (by rw [hn]; omega) num9 N9_len (by rw [e]; exact q)))
    (by
      rcases hSt.crash mask torn (allS N9 (sure ++ l)).length with e | ⟨h, _⟩
      · rw [dif_neg (by have := hSt.sl; omega)] at e
        obtain ⟨z, hz⟩ := hbad _ (by omega) e
        exact one_miss0 (by omega) (z := z) fun _ => hz
      · omega)
  refine ⟨_, r, _, crash_eq hSt.ok hm, k1, ?_, k2⟩
  rcases k3 with e | e
  · rw [e, List.length_append]; omega
  · by_cases c : r + 1 ≤ sure.length
    · exfalso
      have m := stR_mono N9 (sure ++ l) c
      have : stR N9 (sure ++ l) sure.length = (allS N9 sure).length := by unfold stR; rw [List.take_left]
      omega
    · omega
end Go.Proofs.Yteclchefihcjkaa.Am
