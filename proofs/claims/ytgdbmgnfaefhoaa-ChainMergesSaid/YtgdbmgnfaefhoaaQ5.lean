/- Part 5 of the proof: values, memory, walks or the plain law. -/
import Derived.Test.YtgdbmgnfaefhoaaQ4
namespace Go.Proofs.Ytgdbmgnfaefhoaa.Am
open Go
set_option linter.unusedVariables false
set_option linter.unusedSimpArgs false
set_option maxRecDepth 100000
theorem split_at {α : Type} {l : List α} {k : Nat} (h : k < l.length) : ∃ xs x ys, l = xs ++ x :: ys ∧ xs.length = k := ⟨l.take k, l[k], l.drop (k + 1), by rw [List.getElem_cons_drop, List.take_append_drop], by rw [List.length_take]; omega⟩
theorem seg_app (v : Api_Volume) (xs ys : List Nat) (f : Int) : seg v f (xs ++ ys) = seg v f xs ++ seg v (lastT f xs) ys := by
 rw [seg_prs, prs_app, List.map_append, ← seg_prs, ← seg_prs]
theorem mon_app {W : Nat} : ∀ {xs ys : List Nat} {f : Int}, Mon W f (xs ++ ys) → Mon W f xs ∧ Mon W (lastT f xs) ys
 | [], _, _, h => ⟨trivial, h⟩
 | x :: xs, ys, f, h => by
  obtain ⟨h1, h2⟩ := mon_app (xs := xs) h.2.2
  exact ⟨⟨h.1, h.2.1, h1⟩, h2⟩
section
variable {m : Nat} {v : Api_Volume}
end
theorem chainMerges_eq {a0 a1 : List Int} {a2 : List Bool} (h0 : Byt a0) (h1 : Byt a1) : mementolaw22_ChainMerges a0 a1 a2 = some true := by
 unfold mementolaw22_ChainMerges
 rw [known22, Option.bind_some, if_neg (by simp)]
 by_cases c0 : (a0.length : Int) > 80
 ·rw [if_pos (by simpa using c0)]; rfl
 rw [if_neg (by simpa using c0)]
 by_cases c1 : (a1.length : Int) > 8
 ·rw [if_pos (by simpa using c1)]; rfl
 rw [if_neg (by simpa using c1)]
 by_cases c2 : a1.length = 0
 ·rw [if_pos (by simpa using c2)]; rfl
 rw [if_neg (by simpa using c2), Option.bind_some]
 by_cases c3 : (a2.length : Int) < (a1.length : Int)
 ·rw [if_pos (by simpa using c3)]
 rw [if_neg (by simpa using c3)]
 obtain ⟨v, ts, e1, hv, hf, e2, hmon⟩ := streams_ok (a0 := a0) (a1 := a1) (by omega) h0 (by omega) h1
 rw [e1, Option.bind_some]
 simp only
 have hsl : (seg v (-1) ts).length = ts.length := seg_len v ts (-1)
 have hb := hv.blocks
 obtain ⟨t0, r0, rfl⟩ := List.exists_cons_of_ne_nil (show ts ≠ [] from fun h => by subst h; simp at e2; omega)
 obtain ⟨u, u1, u2, u3⟩ := all_seg hv (by omega) (by simp only [List.length_cons] at e2; omega) hmon
 rw [u3, Option.bind_some]
 simp only
 rw [if_neg (by simp)]
 generalize hts : t0 :: r0 = ts at *
 have hne : ts ≠ [] := by rw [← hts]; simp
 have L1 : ∃ us, loopN (mementolaw22_ChainMerges_L1 a2 (seg v (-1) ts)) fuel ([], 0) = some (.go (seg v (-1) us)) ∧ us ≠ [] ∧ us.length ≤ ts.length ∧ lastT (-1) us = lastT (-1) ts ∧ Mon v.Writes.length (-1) us := by
  obtain ⟨r, hr, us, q1, q2, q3, q4, q5⟩ := loop_QF (b := mementolaw22_ChainMerges_L1 a2 (seg v (-1) ts)) (s := (([] : List Api_Stream), (0 : Int)))
   (fun q => ∃ i : Nat, ∃ us : List Nat, i ≤ ts.length ∧ q = (seg v (-1) us, (i : Int)) ∧ us.length ≤ i ∧ (us = [] ↔ i = 0) ∧ lastT (-1) us = lastT (-1) (ts.take i) ∧ Mon v.Writes.length (-1) us) (fun q => ts.length - q.2.toNat)
   (fun r => ∃ us : List Nat, r = Ctl.go (seg v (-1) us) ∧ us ≠ [] ∧ us.length ≤ ts.length ∧ lastT (-1) us = lastT (-1) ts ∧ Mon v.Writes.length (-1) us) ⟨0, [], by omega, rfl, by simp, by simp, rfl, trivial⟩ (by simp only; omega) (by
   rintro _ ⟨i, us, hi, rfl, ul, u0, ulast, umon⟩
   simp only [mementolaw22_ChainMerges_L1]
   by_cases q : i < ts.length
   ·right
    obtain ⟨xs, t, ys, e, hxs⟩ := split_at q
    have etk : ts.take i = xs := by rw [e, ← hxs, List.take_left]
    have etk2 : ts.take (i + 1) = xs ++ [t] := by rw [e, ← hxs, List.take_append, List.take_of_length_le (by omega)]; simp
    rw [etk] at ulast
    have hmon' := hmon
    rw [e] at hmon'
    obtain ⟨mx, mt, mt2, my⟩ := mon_app hmon'
    have iy : idx (seg v (-1) ts) (i : Int) = some (mkS v (lastT (-1) xs) t) := by rw [idx_nat, e, seg_app, List.getElem?_append_right (by rw [seg_len]; omega), seg_len, hxs, Nat.sub_self]; rfl
    have su := seg_len v us (-1)
    rw [if_pos (by rw [hsl]; simpa using q)]
    have add : ∃ s' : List Api_Stream × Int, (some (.go (seg v (-1) (us ++ [t]), IntKind.wrap .i64 ((i : Int) + 1))) : Option (Ctl (Ctl Bool (List Api_Stream)) (List Api_Stream × Int))) = some (.go s') ∧
      (∃ j : Nat, ∃ us' : List Nat, j ≤ ts.length ∧ s' = (seg v (-1) us', (j : Int)) ∧ us'.length ≤ j ∧ (us' = [] ↔ j = 0) ∧ lastT (-1) us' = lastT (-1) (ts.take j) ∧ Mon v.Writes.length (-1) us') ∧ ts.length - s'.2.toNat < ts.length - ((i : Int)).toNat := by
     rw [next3 (by omega)]
     exact ⟨_, rfl, ⟨i + 1, us ++ [t], q, rfl, by simp; omega, by simp, by rw [etk2, last_snoc, last_snoc], mon_snoc umon (by rw [ulast]; exact mt) mt2⟩, by simp only [Int.toNat_natCast]; omega⟩
    have addE : app 56 (seg v (-1) us) [mkS v (lastT (-1) xs) t] = some (seg v (-1) (us ++ [t])) := by
     rw [app_of (by simp only [List.length_singleton]; omega) (by simp only [List.length_singleton]; omega), seg_snoc, ulast]
    by_cases i0 : i = 0
    ·rw [if_neg (by simp; omega), Option.bind_some, if_neg (by simp), iy, Option.bind_some, addE, Option.bind_some, kont_go']
     exact add
    ·rw [if_pos (by simp; omega), idx_at (by omega), Option.bind_some, Option.bind_some]
     cases a2[i]
     ·rw [if_neg (by simp), iy, Option.bind_some, addE, Option.bind_some, kont_go']
      exact add
     ·rw [if_pos rfl]
      have une : us ≠ [] := fun h => i0 (u0.1 h)
      obtain ⟨ws, w, rfl⟩ : ∃ ws w, us = ws ++ [w] := ⟨us.dropLast, us.getLast une, (List.dropLast_concat_getLast une).symm⟩
      rw [last_snoc] at ulast
      obtain ⟨mw, mww, mw2, _⟩ := mon_app umon
      have lw := (last_rng mw (by omega)).1
      have su' : (seg v (-1) (ws ++ [w])).length = ws.length + 1 := by rw [su]; simp
      rw [su', wrap64 (n := ((ws.length + 1 : Nat) : Int) - 1) (by omega) (by omega), show ((ws.length + 1 : Nat) : Int) - 1 = (ws.length : Int) by omega]
      have il : idx (seg v (-1) (ws ++ [w])) (ws.length : Int) = some (mkS v (lastT (-1) ws) w) := by rw [idx_nat, seg_snoc, List.getElem?_append_right (by rw [seg_len]; omega), seg_len, Nat.sub_self]; rfl
      have ftw : Ft v (lastT (-1) ws) w := ⟨lw, mww, mw2⟩
      have lwt : w ≤ t := by rw [← ulast] at mt; omega
      have ul2 : updL (seg v (-1) (ws ++ [w])) (ws.length : Int) (mkS v (lastT (-1) ws) t) = some (seg v (-1) (ws ++ [t])) := by
       rw [updL_nat (by omega), seg_snoc, seg_snoc, List.set_append_right _ _ (by rw [seg_len]; omega), seg_len, Nat.sub_self]; rfl
      rw [il, Option.bind_some, iy, Option.bind_some, ← ulast, merge_eq hv (by omega) ftw lwt mt2, Option.bind_some]
      simp only
      rw [if_neg (by simp), ul2, Option.bind_some, kont_go', next3 (by omega)]
      simp only [List.length_append, List.length_singleton] at ul
      exact ⟨_, rfl, ⟨i + 1, ws ++ [t], q, rfl, by simp; omega, by simp, by rw [etk2, last_snoc, last_snoc], mon_snoc mw (by omega) mt2⟩, by simp only [Int.toNat_natCast]; omega⟩
   ·left
    have : i = ts.length := by omega
    subst this
    rw [if_neg (by rw [hsl]; simp)]
    rw [List.take_length] at ulast
    have tl := List.length_pos_iff.2 hne
    exact ⟨_, rfl, us, rfl, fun h => by have := u0.1 h; omega, ul, ulast, umon⟩)
  exact ⟨us, by rw [hr, q1], q2, q3, q4, q5⟩
 obtain ⟨us, l1, l2, l3, l4, l5⟩ := L1
 obtain ⟨p0, pr, rfl⟩ := List.exists_cons_of_ne_nil l2
 obtain ⟨u', u1', _, u3'⟩ := all_seg hv (by omega) (by simp only [List.length_cons] at l3; omega) l5
 obtain rfl : u' = u := by rw [u1', u1] at l4; omega
 have tl := List.length_pos_iff.2 hne
 have ilast : idx (seg v (-1) ts) (IntKind.wrap .i64 (((seg v (-1) ts).length : Int) - 1)) = some (mkS v (lastT (-1) ts.dropLast) u') := by
  have e : ts = ts.dropLast ++ [ts.getLast hne] := (List.dropLast_concat_getLast hne).symm
  have eu : ts.getLast hne = u' := by rw [e, last_snoc] at u1; omega
  rw [hsl, wrap64 (by omega) (by omega), show (ts.length : Int) - 1 = ((ts.length - 1 : Nat) : Int) by omega, idx_nat]
  conv => lhs; rw [e, seg_snoc, List.getElem?_append_right (by rw [seg_len, List.length_dropLast]; simp), seg_len, List.length_dropLast]
  simp [eu]
 have sl : (stateL v u').length ≤ 100000 := by rw [stateL_len]; omega
 have ml := mkS_len hv (-1) u'
 rw [l1, kont_go', u3', Option.bind_some]
 simp only
 rw [ilast, Option.bind_some, show (mkS v (lastT (-1) ts.dropLast) u').To = (u' : Int) from rfl, state_eq hv (by omega) hf u2, Option.bind_some]
 simp only
 rw [if_pos (by simp), streams_self (by omega), Option.bind_some, if_pos rfl, blocks_eq hv (by omega) u2, Option.bind_some, bodies_self sl]
 rfl
end Go.Proofs.Ytgdbmgnfaefhoaa.Am
