/- elect.Commit: what it does to a world. -/
import Derived.Test.YteoalgkckhijlaaE1
namespace Go.Proofs.Yteoalgkckhijlaa.Am
open Go Go.RowKit Go.Shelf
set_option linter.unusedVariables false
set_option linter.unusedSimpArgs false
attribute [local go_sem] Oper.semAt_some

theorem w64 (n : Int) : RowKit.wrap64 n = IntKind.wrap .i64 n := by
  have e1 : (2 ^ IntKind.i64.bits : Int) = 18446744073709551616 := rfl
  have e2 : (2 ^ (IntKind.i64.bits - 1) : Int) = 9223372036854775808 := rfl
  have e3 : IntKind.i64.signed = true := rfl
  simp only [RowKit.wrap64, IntKind.wrap, e1, e2, e3, Bool.true_and, decide_eq_true_eq]
  split <;> omega

theorem upto_le {α : Type} (f : Nat → α) (k : Nat) : ∀ d, ∃ rest, upto f (k + d) = upto f k ++ rest
  | 0 => ⟨[], by simp⟩
  | d + 1 => by
    obtain ⟨r, h⟩ := upto_le f k d
    exact ⟨r ++ [f (k + d)], by rw [← Nat.add_assoc, upto_succ, h, List.append_assoc]⟩

theorem cmtF_hit {commit : Int} {ts : List Int} {c : Int × Int → Bool} {k : Nat} (hk : k ≤ ts.length) {ini : List (Int × Int)} {last : Int × Int} (e : upto (bk ts.length ts) k = ini ++ [last]) (h0 : ∀ p ∈ ini, c p = false) (h1 : c last = true) : cmtF commit ts c = cmtAt commit last.1 := by
  obtain ⟨r, hr⟩ := upto_le (bk ts.length ts) k (ts.length - k)
  rw [show k + (ts.length - k) = ts.length by omega, e] at hr
  unfold cmtF
  rw [hr, List.find?_append, List.find?_append, List.find?_eq_none.2 (fun x hx => by simp [h0 x hx])]
  simp [h1]
theorem cmtF_miss {commit : Int} {ts : List Int} {c : Int × Int → Bool} (h : ∀ p ∈ upto (bk ts.length ts) ts.length, c p = false) : cmtF commit ts c = commit := by
  unfold cmtF
  rw [List.find?_eq_none.2 (fun x hx => by simp [h x hx])]

set_option maxRecDepth 100000 in
set_option maxHeartbeats 2000000 in
theorem commit0_in (term commit : Int) (sm st : Value) (hm : ∃ a cap, sm = .slice a 0 cap) (w : World) :
    CallsIn Fence.wide 12 Try.prog 13 #[.int .i64 term, .int .i64 commit, sm, st] w fun e W' => e = .returned (.int .i64 commit) ∧ Below w.heap.size w W' := by
  obtain ⟨a, cap, rfl⟩ := hm
  refine callsIn_of_wp_marks Try.func13 rfl trivial ?_ rfl
  simp only [Try.ntmps13, List.size_toArray, List.length_cons, List.length_nil, Nat.reduceAdd, Nat.reduceSub, Array.replicate_succ, Array.replicate_zero, List.push_toArray, List.append_toArray, List.nil_append, List.cons_append]
  gi_wp2
  have hB : Below w.heap.size w (((w.alloc (Obj.cells #[Value.int IntKind.i64 term] 3)).alloc (Obj.cells #[Value.int IntKind.i64 commit] 3)).alloc (Obj.cells #[Value.int IntKind.i64 commit] 3)) :=
    (((Below.refl _ w).alloc (Nat.le_refl _) _).alloc (by simp) _).alloc (by simp; omega) _
  have bR := Boxed.new ((w.alloc (Obj.cells #[Value.int IntKind.i64 term] 3)).alloc (Obj.cells #[Value.int IntKind.i64 commit] 3)) 3 (.int .i64 commit)
  rw [World.size_alloc, World.size_alloc] at bR
  have hc5 := bR.cell
  refine ⟨.int .i64 commit, ?_, rfl, hB⟩
  simp [results, Try.f13, go_sem, hc5]

set_option maxRecDepth 100000 in
set_option maxHeartbeats 2000000 in
theorem commit1_in (term commit : Int) (a1 a2 : Option Addr) (c1 c2 : Nat) (mt ts m : List Int) (hs : slices_Sort_Lint_int mt = some m) (hml : m.length = mt.length) (hpos : 0 < mt.length) (hmt : mt.length ≤ 12) (hts : ts.length ≤ 1000000)
    (w : World) (hm : Ints w.heap.size w (.slice a1 mt.length c1) mt) (ht : Ints w.heap.size w (.slice a2 ts.length c2) ts) :
    CallsIn Fence.wide 12 Try.prog 13 #[.int .i64 term, .int .i64 commit, .slice a1 mt.length c1, .slice a2 ts.length c2] w fun e W' =>
      e = .returned (.int .i64 (cmtF commit ts (cmtT term commit (m[(mt.length - 1) / 2]?.getD 0)))) ∧ Below w.heap.size w W' := by
  refine callsIn_of_wp_marks Try.func13 rfl trivial ?_ rfl
  simp only [Try.ntmps13, List.size_toArray, List.length_cons, List.length_nil, Nat.reduceAdd, Nat.reduceSub, Array.replicate_succ, Array.replicate_zero, List.push_toArray, List.append_toArray, List.nil_append, List.cons_append]
  obtain ⟨w3, hw3⟩ : ∃ w3, (((w.alloc (Obj.cells #[Value.int IntKind.i64 term] 3)).alloc (Obj.cells #[Value.int IntKind.i64 commit] 3)).alloc (Obj.cells #[Value.int IntKind.i64 0] 3)) = w3 := ⟨_, rfl⟩
  have hs3 : w3.heap.size = w.heap.size + 1 + 1 + 1 := by rw [← hw3]; simp
  have hB3 : Below w.heap.size w w3 := by rw [← hw3]; exact (((Below.refl _ w).alloc (Nat.le_refl _) _).alloc (by simp) _).alloc (by simp; omega) _
  have bT : Boxed w3 w.heap.size 3 (.int .i64 term) := by rw [← hw3]; exact ((Boxed.new w 3 (.int .i64 term)).alloc _).alloc _
  have bC : Boxed w3 (w.heap.size + 1) 3 (.int .i64 commit) := by
    have q := Boxed.new (w.alloc (Obj.cells #[Value.int IntKind.i64 term] 3)) 3 (.int .i64 commit)
    rw [World.size_alloc] at q; rw [← hw3]; exact q.alloc _
  have bR : Boxed w3 (w.heap.size + 1 + 1) 3 (.int .i64 0) := by
    have q := Boxed.new ((w.alloc (Obj.cells #[Value.int IntKind.i64 term] 3)).alloc (Obj.cells #[Value.int IntKind.i64 commit] 3)) 3 (.int .i64 0)
    rw [World.size_alloc, World.size_alloc] at q; rw [← hw3]; exact q
  obtain ⟨w4, hw4⟩ : ∃ w4, w3.alloc (Obj.cells #[Value.slice a1 mt.length c1] 22) = w4 := ⟨_, rfl⟩
  have hs4 : w4.heap.size = w3.heap.size + 1 := by rw [← hw4]; simp
  have hB4 : Below w3.heap.size w3 w4 := by rw [← hw4]; exact (Below.refl _ w3).alloc (Nat.le_refl _) _
  have bN : Boxed w4 w3.heap.size 22 (.slice a1 mt.length c1) := by rw [← hw4]; exact Boxed.new w3 _ _
  have hB : Below w.heap.size w w4 := hB3.trans (hB4.mono hB3.size)
  have hm4 : Ints w4.heap.size w4 (.slice a1 mt.length c1) mt := Ints.le hB.size (hm.below hB)
  have hseq := values_stops Fence.wide 8 trivial rfl (by omega) w3.heap.size w4.heap.size _ mt (by omega) w4 (by omega) (Nat.le_refl _) bN.cell hm4
  rw [hs3] at hseq
  have hsorted := sorted_in 11 (by omega) 21 _ (enters_of Try.func21 (by kernel_rfl) rfl) mt m hs hml hpos (by unfold maxLen; omega) (by omega) w4 hseq
  obtain ⟨top, htop⟩ : ∃ top, m[(mt.length - 1) / 2]?.getD 0 = top := ⟨_, rfl⟩
  rw [htop]
  gi_wp2_with (first
    | (refine ⟨trivial, ?_⟩; gi_at_call 18; refine (back_in Fence.wide _ trivial rfl _ _ _ _).mono ?_; rintro e w' ⟨rfl, rfl⟩)
    | (refine ⟨trivial, ?_⟩; gi_at_call 17; refine (values_in Fence.wide _ trivial rfl _ _ _ _).mono ?_; rintro e w' ⟨rfl, rfl⟩)
    | (refine ⟨trivial, ?_⟩; gi_at_call 16; refine hsorted.mono ?_; clear hsorted; rintro e w5 ⟨b, cap, rfl, hcs, hB5⟩; have hct := hcs ((mt.length - 1) / 2) (by omega); rw [htop] at hct; clear hcs htop))
  have bT5 : Boxed w5 w.heap.size 3 (.int .i64 term) := (hB5.block _ (by omega)).trans ((hB4.block _ (by omega)).trans bT)
  have bC5 : Boxed w5 (w.heap.size + 1) 3 (.int .i64 commit) := (hB5.block _ (by omega)).trans ((hB4.block _ (by omega)).trans bC)
  have bR5 : Boxed w5 (w.heap.size + 1 + 1) 3 (.int .i64 0) := (hB5.block _ (by omega)).trans ((hB4.block _ (by omega)).trans bR)
  have bP5 := (Boxed.new w5 3 (.int .i64 top)).alloc (Obj.cells #[Value.slice a2 ts.length c2] 22)
  have bS5 := Boxed.new (w5.alloc (Obj.cells #[Value.int .i64 top] 3)) 22 (.slice a2 ts.length c2)
  rw [World.size_alloc] at bS5
  have hBw5 : Below w.heap.size w w5 := hB.trans (hB5.mono hB.size)
  have hs5 := hB5.size
  have hB56 : Below w5.heap.size w5 ((w5.alloc (Obj.cells #[Value.int .i64 top] 3)).alloc (Obj.cells #[Value.slice a2 ts.length c2] 22)) := ((Below.refl _ w5).alloc (Nat.le_refl _) _).alloc (by simp) _
  replace bT5 := (bT5.alloc (Obj.cells #[Value.int .i64 top] 3)).alloc (Obj.cells #[Value.slice a2 ts.length c2] 22)
  replace bC5 := (bC5.alloc (Obj.cells #[Value.int .i64 top] 3)).alloc (Obj.cells #[Value.slice a2 ts.length c2] 22)
  replace bR5 := (bR5.alloc (Obj.cells #[Value.int .i64 top] 3)).alloc (Obj.cells #[Value.slice a2 ts.length c2] 22)
  have hs6 : ((w5.alloc (Obj.cells #[Value.int .i64 top] 3)).alloc (Obj.cells #[Value.slice a2 ts.length c2] 22)).heap.size = w5.heap.size + 2 := by simp
  generalize ((w5.alloc (Obj.cells #[Value.int .i64 top] 3)).alloc (Obj.cells #[Value.slice a2 ts.length c2] 22)) = w6 at *
  have hBw6 : Below w.heap.size w w6 := hBw5.trans (hB56.mono hBw5.size)
  have ht6 : Ints w6.heap.size w6 (.slice a2 ts.length c2) ts := Ints.le hBw6.size (ht.below hBw6)
  have hwlt : w.heap.size + 1 + 1 < w5.heap.size := by omega
  refine wpIn_rangeFunc_ownG rfl (by omega) (gf := 22) (lb := #[.pointer (some ⟨w5.heap.size + 1, 0, none⟩)]) rfl trivial (enters_of Try.func22 (by kernel_rfl) rfl)
    (back_stops Fence.wide 11 trivial rfl (by omega) (w5.heap.size + 1) w6.heap.size _ ts (by omega) w6 (by omega) (Nat.le_refl _) (by omega) bS5.cell ht6) belowK_t (belowK_b (Nat.le_refl _)) (Below.refl _ _) (fun _ => rfl)
    (fun pre W => ((∀ p ∈ pre, cmtT term commit top p = false) ∧ (Boxed W w.heap.size 3 (.int .i64 term) ∧ (Boxed W (w.heap.size + 1) 3 (.int .i64 commit) ∧ (Boxed W w5.heap.size 3 (.int .i64 top) ∧ Boxed W (w.heap.size + 1 + 1) 3 (.int .i64 0))))) ∧ (Below w.heap.size w W))
    (fun c pre W => (c = .ret ∧ ∃ ini last, pre = ini ++ [last] ∧ (∀ p ∈ ini, cmtT term commit top p = false) ∧ cmtT term commit top last = true ∧ Boxed W (w.heap.size + 1 + 1) 3 (.int .i64 (cmtAt commit last.1))) ∧ Below w.heap.size w W)
    (OwnFrom.and (OwnFrom.and (ownFrom_pure _ (fun pre => ∀ p ∈ pre, cmtT term commit top p = false)) (OwnFrom.and (Own.from (boxed_own _ _ (fun _ => _)) _) (OwnFrom.and (Own.from (boxed_own _ _ (fun _ => _)) _) (OwnFrom.and (Own.from (boxed_own _ _ (fun _ => _)) _) (Own.from (boxed_own _ _ (fun _ => _)) _))))) (ownFrom_below (Nat.le_refl _) (by omega)))
    (fun c => OwnFrom.and (Own.from (fun s A B row hs hg hr => by obtain ⟨hc, ini, last, e1, e2, e3, e4⟩ := hs; exact ⟨hc, ini, last, e1, e2, e3, boxed_own (β := Unit) _ _ (fun _ => _) () A B row e4 hg hr⟩) _) (ownFrom_below (Nat.le_refl _) (by omega)))
    ⟨⟨by simp, bT5, bC5, bP5, bR5⟩, hBw6⟩
    (fun x => { tmps := #[Value.int IntKind.i64 term, Value.int IntKind.i64 commit, Value.slice a1 mt.length c1,
          Value.slice a2 ts.length c2, Value.pointer (some { block := w.heap.size, off := 0 }),
          Value.pointer (some { block := w.heap.size + 1, off := 0 }), undef, undef,
          Value.pointer (some { block := w.heap.size + 1 + 1, off := 0 }),
          Value.slice (some { block := b, off := 0 }) mt.length cap,
          Value.pointer (some { block := w5.heap.size, off := 0 }), .int .i64 x.1, .int .i64 x.2, undef, Value.slice a1 mt.length c1,
          Value.int IntKind.i64 ↑mt.length, Value.bool false, undef, Value.slice a1 mt.length c1,
          Value.func (Fn.func 21) #[] #[Value.pointer (some { block := w.heap.size + 1 + 1 + 1, off := 0 })],
          Value.slice (some { block := b, off := 0 }) mt.length cap,
          Value.slice (some { block := b, off := 0 }) mt.length cap,
          Value.slice (some { block := b, off := 0 }) mt.length cap, Value.int IntKind.i64 ↑mt.length,
          Value.int IntKind.i64 (↑mt.length - 1), Value.int IntKind.i64 ((↑mt.length - 1) / 2),
          Value.pointer (some { block := b, off := (mt.length - 1) / 2 }), Value.int IntKind.i64 top,
          Value.slice a2 ts.length c2,
          Value.func (Fn.func 22) #[] #[Value.pointer (some { block := w5.heap.size + 1, off := 0 })], .int .i64 x.1, .int .i64 x.2,
          undef, undef, undef, undef, undef, undef, undef, undef, undef, undef, undef, undef, undef, undef], defers := [] }) ?assign ?body ?done ?stop
  case assign =>
    intro l x W K hK
    gi_wp2
    exact hK
  case body =>
    rintro l pre x W ⟨⟨hp, hT', hC', hP', hR'⟩, hB'⟩ _
    have hcT := hT'.cell; have hcC := hC'.cell; have hcP := hP'.cell; have hcR := hR'.cell; have hfR := hR'.frozen
    gi_wp2
    · have h1 : x.2 = term := by assumption
      have h2 : RowKit.wrap64 (RowKit.wrap64 (commit + 1) + x.1) ≤ top := by assumption
      exact ⟨(KeepsOthers.setCell _ _ _).from _, ⟨rfl, pre, x, rfl, hp, by rw [w64, w64] at h2; simp [cmtT, cmtAt, h1, h2], by rw [show cmtAt commit x.1 = RowKit.wrap64 (RowKit.wrap64 (commit + 1) + x.1) by rw [w64, w64]; rfl]; exact hR'.set _⟩, hB'.setCell (p := ⟨w.heap.size + 1 + 1, 0, none⟩) (by simp only; omega) _⟩
    · have h2 : top < RowKit.wrap64 (RowKit.wrap64 (commit + 1) + x.1) := by assumption
      exact ⟨KeepsFrom.refl _ _, Below.refl _ _, ⟨fun p hq => (List.mem_append.1 hq).elim (hp p) (fun e => by rw [w64, w64] at h2; rw [List.mem_singleton] at e; subst e; simp only [cmtT, cmtAt, Bool.and_eq_false_iff, decide_eq_false_iff_not]; exact .inr (decide_eq_false (Int.not_le.2 h2))), hT', hC', hP', hR'⟩, hB'⟩
    · have h1 : ¬ x.2 = term := by assumption
      exact ⟨KeepsFrom.refl _ _, Below.refl _ _, ⟨fun p hq => (List.mem_append.1 hq).elim (hp p) (fun e => by simp at e; subst e; simp [cmtT, h1]), hT', hC', hP', hR'⟩, hB'⟩
  case done =>
    rintro D ys W hD rfl ⟨⟨hne, hT', hC', hP', hR'⟩, hB'⟩ hK
    have hcC := hC'.cell; have hcR := hR'.cell; have hfR := hR'.frozen
    gi_wp2
    have hK' := (KeepsOthers.setCell W ⟨w.heap.size + 1 + 1, 0, none⟩ (.int .i64 commit)).same D _ hK rfl
    refine ⟨by simp, .inl ⟨_, _, rfl, run_takeDeferred hK', ?_⟩⟩
    have hc5 := cell_kept (hR'.set (.int .i64 commit)).cell (grownBy_putObj' _ D (.deferred none)) (fun r e => by cases e; exact ⟨_, hK', rfl⟩)
    refine ⟨.int .i64 commit, ?_, ?_, (hB'.setCell (p := ⟨w.heap.size + 1 + 1, 0, none⟩) (by simp only; omega) _).trans (belowK_b (w := w) (Nat.le_refl _) _ D _ _ (by omega) hK' rfl rfl)⟩
    · simp [results, Try.f13, go_sem, hc5]
    · rw [cmtF_miss hne]
  case stop =>
    rintro D c pre W hD ⟨k, hk, rfl⟩ ⟨⟨rfl, ini, last, e1, e2, e3, hR'⟩, hB'⟩ hK
    gi_wp2
    refine ⟨by simp, .inl ⟨_, _, rfl, run_takeDeferred hK, ?_⟩⟩
    have hc5 := cell_kept hR'.cell (grownBy_putObj' _ D (.deferred none)) (fun r e => by cases e; exact ⟨_, hK, rfl⟩)
    refine ⟨.int .i64 (cmtAt commit last.1), ?_, ?_, hB'.trans (belowK_b (w := w) (Nat.le_refl _) W D _ _ (by omega) hK rfl rfl)⟩
    · simp [results, Try.f13, go_sem, hc5]
    · rw [cmtF_hit hk e1 e2 e3]
end Go.Proofs.Yteoalgkckhijlaa.Am
