/- Versions of a block: the laws, as functions over lists. -/
import Derived.Test.YtjckcocakjaaeaaL13
namespace Go.Proofs.Ytjckcocakjaaeaa.Am
open Go
set_option linter.unusedVariables false

def sm13 (s : Int) : List Int → Vs
  | [] => []
  | x :: r => ⟨s + x % 4 + 1, [x]⟩ :: sm13 (s + x % 4 + 1) r

theorem sm13_len (l : List Int) : ∀ s, (sm13 s l).length = l.length := by
  induction l with
  | nil => intro s; rfl
  | cons x l ih => intro s; simp [sm13, ih]
theorem sm13_mem (l : List Int) : ∀ (s : Int), ∀ v ∈ sm13 s l, s < v.Seq ∧ v.Seq ≤ s + 4 * l.length ∧ v.Data.length = 1 := by
  induction l with
  | nil => intro s v hv; cases hv
  | cons x l ih =>
    intro s v hv
    simp only [sm13, List.mem_cons] at hv
    rcases hv with rfl | hv
    · simp; omega
    · have := ih _ v hv; simp; omega
theorem sm13_srt (l : List Int) : ∀ (s : Int), Srt (sm13 s l) := by
  induction l with
  | nil => intro s; exact List.Pairwise.nil
  | cons x l ih =>
    intro s
    refine List.pairwise_cons.2 ⟨fun v hv => ?_, ih _⟩
    have := sm13_mem l _ v hv
    simp only; omega
theorem sm13_sml {l : List Int} (hl : l.length ≤ 20) (s : Int) : Sml (sm13 s l) := ⟨by rw [sm13_len]; omega, fun v hv => by have := (sm13_mem l s v hv).2.2; omega⟩

theorem some13_eq {l : List Int} (hb : Byt l) (hl : l.length ≤ 20) : mementolaw13_some l = some (sm13 0 l) := by
  unfold mementolaw13_some
  rw [loop_eqF (s := ([], 0, 0)) (fun s => ∃ (i : Nat) (out : Vs) (t : Int), s = (out, t, (i : Int)) ∧ i ≤ l.length ∧ out.length = i ∧ out ++ sm13 t (l.drop i) = sm13 0 l ∧ 0 ≤ t ∧ t ≤ 4 * i) (fun s => (l.length - s.2.2).toNat) (fun _ => sm13 0 l)
    ⟨0, [], 0, rfl, by omega, rfl, by simp, by omega, by omega⟩ (by simp; omega)]
  · rfl
  rintro _ ⟨i, out, t, rfl, hi, ho, he, h0, h1⟩
  simp only [mementolaw13_some_L1]
  by_cases hil : i < l.length
  · right
    have hx := hb _ (List.getElem_mem hil)
    have e1 : IntKind.wrap .i64 ((i : Int) + 1) = ((i + 1 : Nat) : Int) := by rw [wrap64 (by omega) (by omega)]; omega
    have e2 : Int.tmod l[i] 4 = l[i] % 4 := Int.tmod_eq_emod_of_nonneg hx.1
    have e3 : IntKind.wrap .i64 (t + IntKind.wrap .i64 (IntKind.wrap .i64 (l[i] % 4) + 1)) = t + l[i] % 4 + 1 := by
      rw [wrap64 (n := l[i] % 4) (by omega) (by omega), wrap64 (n := l[i] % 4 + 1) (by omega) (by omega), wrap64 (by omega) (by omega)]; omega
    rw [if_pos (by simpa using hil), e1, idx_at hil, slc_nat l (by omega) hil]
    simp only [Option.bind_some]
    rw [app_of (by simp; omega) (by simp; omega), e2, e3]
    have e4 : (l.take (i + 1)).drop i = [l[i]] := by
      rw [List.take_succ_eq_append_getElem hil, List.drop_append_of_le_length (by simp; omega), List.drop_eq_nil_of_le (by simp; omega)]; rfl
    refine ⟨(out ++ [⟨t + l[i] % 4 + 1, [l[i]]⟩], t + l[i] % 4 + 1, ((i + 1 : Nat) : Int)), ?_, ⟨i + 1, _, _, rfl, hil, by simp [ho], ?_, by omega, by omega⟩, by simp only; omega, by first | trivial | rfl⟩
    · simp only [Option.bind_some, e4]
    · rw [← he, List.append_assoc]
      congr 1
      rw [List.drop_eq_getElem_cons hil]; rfl
  · left
    have : i = l.length := by omega
    subst this
    rw [if_neg (by simp)]
    simp only [early, Option.map_some, Option.some.injEq, Ctl.ret.injEq]
    simpa [sm13] using he

theorem right13_of {l : Vs} (hs : Srt l) (h : ∀ v ∈ l, 1 ≤ v.Seq ∧ v.Seq ≤ 1099511627776) : right13 l = true := by
  unfold right13
  rw [List.all_eq_true]
  intro k hk
  have hk := List.mem_range.1 hk
  unfold ok13
  rw [List.getElem?_eq_getElem hk]
  have h1 := h _ (List.getElem_mem hk)
  have e1 : decide (l[k].Seq < 1) = false := by simp; omega
  have e2 : decide (l[k].Seq > 1099511627776) = false := by simp; omega
  simp only [e1, e2, Bool.false_or, Bool.not_eq_true', Bool.and_eq_false_iff]
  by_cases h0 : 0 < k
  · right
    have hk1 : k - 1 < l.length := by omega
    rw [List.getElem?_eq_getElem hk1]
    have := List.pairwise_iff_getElem.1 hs (k - 1) k hk1 hk (by omega)
    simp; omega
  · left; simp; omega

theorem sm13_right {l : List Int} (hl : l.length ≤ 20) : right13 (sm13 0 l) = true := right13_of (sm13_srt l 0) fun v hv => by have := sm13_mem l 0 v hv; omega

theorem w_i64 {n : Int} (h0 : -9223372036854775808 ≤ n) (h1 : n ≤ 9223372036854775807) : IntKind.wrap .i64 n = n := wrap64 h0 h1

theorem histTells_eq {raw : Vs} {l : List Int} {seq t : Int} {data : List Int} {k : Int} (hl : Byt l) (hk : 0 ≤ k ∧ k < 256) : mementolaw13_HistTells raw l seq t data k = some true := by
  unfold mementolaw13_HistTells
  rw [known13]
  simp only [Option.bind_some, Bool.not_true, Bool.false_eq_true, if_false]
  by_cases h1 : raw.length ≤ 20
  · by_cases h2 : l.length ≤ 20
    · by_cases h3 : data.length ≤ 20
      · have g1 : decide ((raw.length : Int) > 20) = false := by simp; omega
        have g2 : decide ((l.length : Int) > 20) = false := by simp; omega
        have g3 : decide ((data.length : Int) > 20) = false := by simp; omega
        simp only [g1, g2, g3, Bool.false_eq_true, if_false, Option.bind_some]
        rw [refRight_eq, hright_eq (by omega)]
        simp only [Option.bind_some, bne_self_eq_false, Bool.false_eq_true, if_false]
        rw [some13_eq hl h2]
        simp only [Option.bind_some]
        have hs := sm13_srt l 0
        have hm := sm13_sml h2 0
        have hxl : (sm13 0 l).length ≤ 20 := by rw [sm13_len]; exact h2
        have hr := sm13_right h2
        generalize sm13 0 l = x at hs hm hxl hr
        rw [hright_eq (by omega), hr]
        have main : kont (loopN (mementolaw13_HistTells_L1 seq t data k x) fuel ((0 : Nat) : Int)) (fun () => (some true).bind fun y58 => some y58) = some true := by
          rw [loop_eqF (fun s => ∃ i : Nat, s = (i : Int) ∧ i ≤ 3) (fun s => (3 - s).toNat) (fun _ => .go ()) ⟨0, rfl, by omega⟩ (by simp)]
          · rfl
          rintro _ ⟨i, rfl, hi⟩
          simp only [mementolaw13_HistTells_L1]
          have e3 : ([seq, IntKind.wrap .i64 k, t] : List Int).length = 3 := rfl
          by_cases hil : i < 3
          · right
            rw [if_pos (by rw [e3]; simp; omega), idx_at (by rw [e3]; exact hil)]
            simp only [Option.bind_some]
            generalize ([seq, IntKind.wrap .i64 k, t] : List Int)[i] = s
            have hadd : (add13 x s data).length ≤ 1000 := by
              unfold add13; split
              · omega
              · simp; omega
            have hpr : (prune13 x s).length ≤ 1000 := by unfold prune13; have := hm.1; simp; omega
            rw [at_eq hs hm, refAt_eq hs hm, add_eq hm (by omega), refAdd_eq hm (by omega), prune_eq hs hm, refPrune_eq hs hm, changed_eq hs hm, refChanged_eq hs hm, changed_eq hs hm, refChanged_eq hs hm]
            simp only [Option.bind_some, bne_self_eq_false, Bool.false_eq_true, if_false, same_eq hadd, same_eq hpr, Bool.not_true]
            exact ⟨((i + 1 : Nat) : Int), by rw [wrap64 (by omega) (by omega)]; rfl, ⟨i + 1, rfl, hil⟩, by omega, trivial⟩
          · left
            rw [if_neg (by rw [e3]; simp; omega)]; rfl
        exact main
      · have g1 : decide ((raw.length : Int) > 20) = false := by simp; omega
        have g2 : decide ((l.length : Int) > 20) = false := by simp; omega
        have g3 : decide ((data.length : Int) > 20) = true := by simp; omega
        simp [g1, g2, g3]
    · have g1 : decide ((raw.length : Int) > 20) = false := by simp; omega
      have g2 : decide ((l.length : Int) > 20) = true := by simp; omega
      simp only [g1, g2]; rfl
  · have g1 : decide ((raw.length : Int) > 20) = true := by simp; omega
    simp only [g1]; rfl

theorem cnt13_mono {l : Vs} {a b : Int} (h : a ≤ b) : cnt13 l a ≤ cnt13 l b := by
  unfold cnt13
  induction l with
  | nil => simp
  | cons v l ih =>
    by_cases hv : v.Seq ≤ a
    · rw [List.takeWhile_cons_of_pos (by simpa using hv), List.takeWhile_cons_of_pos (by simp; omega)]
      simp; exact ih
    · rw [List.takeWhile_cons_of_neg (by simpa using hv)]; simp
theorem cnt13_drop {l : Vs} (hs : Srt l) (t : Int) : ∀ (n : Nat), n ≤ cnt13 l t → cnt13 (l.drop n) t = cnt13 l t - n := by
  induction l with
  | nil => intro n h; simp [cnt13]
  | cons v l ih =>
    intro n h
    cases n with
    | zero => rfl
    | succ n =>
      by_cases hv : v.Seq ≤ t
      · have e : cnt13 (v :: l) t = cnt13 l t + 1 := by unfold cnt13; rw [List.takeWhile_cons_of_pos (by simpa using hv)]; rfl
        rw [e] at h ⊢
        rw [List.drop_succ_cons, ih (List.pairwise_cons.1 hs).2 n (by omega)]; omega
      · have e : cnt13 (v :: l) t = 0 := by unfold cnt13; rw [List.takeWhile_cons_of_neg (by simpa using hv)]; rfl
        omega
theorem at13_prune {l : Vs} (hs : Srt l) {f a : Int} (h : f ≤ a) : at13 (prune13 l f) a = at13 l a := by
  have hm := cnt13_mono (l := l) h
  unfold at13 prune13
  rw [cnt13_drop hs a _ (by omega)]
  by_cases h0 : cnt13 l a = 0
  · simp [h0]
  · rw [if_neg (by omega), if_neg h0, List.getElem?_drop]
    congr 4
    congr 1
    omega
theorem prune13_srt {l : Vs} (hs : Srt l) (f : Int) : Srt (prune13 l f) := List.Pairwise.sublist (List.drop_sublist _ _) hs
theorem prune13_sml {l : Vs} (h : Sml l) (f : Int) : Sml (prune13 l f) := ⟨by unfold prune13; have := h.1; simp; omega, fun v hv => h.2 v (List.mem_of_mem_drop hv)⟩

theorem histKeeps_eq {l : List Int} {f t : Int} (hl : Byt l) (hf : 0 ≤ f ∧ f < 256) (ht : 0 ≤ t ∧ t < 256) : mementolaw13_HistKeeps l f t = some true := by
  unfold mementolaw13_HistKeeps
  rw [known13]
  simp only [Option.bind_some, Bool.not_true, Bool.false_eq_true, if_false]
  by_cases h2 : l.length ≤ 20
  · have g2 : decide ((l.length : Int) > 20) = false := by simp; omega
    simp only [g2, Bool.false_eq_true, if_false]
    rw [some13_eq hl h2, wrap64 (n := f) (by omega) (by omega), wrap64 (n := t) (by omega) (by omega), wrap64 (n := f + t) (by omega) (by omega), wrap64 (n := f + t + 9) (by omega) (by omega)]
    simp only [Option.bind_some]
    have hs := sm13_srt l 0
    have hm := sm13_sml h2 0
    have hr : right13 (prune13 (sm13 0 l) f) = true := right13_of (prune13_srt hs f) fun v hv => by have := sm13_mem l 0 v (List.mem_of_mem_drop hv); omega
    generalize sm13 0 l = x at hs hm hr
    have hps := prune13_srt hs f
    have hpm := prune13_sml hm f
    have hle : (prune13 x f).length ≤ x.length := by unfold prune13; simp
    have c1 := cnt13_mono (l := x) (show f ≤ f + t by omega)
    have c2 := cnt13_mono (l := x) (show f ≤ f + t + 9 by omega)
    have hch : changed13 (prune13 x f) (f + t) (f + t + 9) = changed13 x (f + t) (f + t + 9) := by
      unfold changed13 prune13
      rw [cnt13_drop hs _ _ (by omega), cnt13_drop hs _ _ (by omega)]
      simp only [decide_eq_decide]; omega
    have hpp : prune13 (prune13 x f) f = prune13 x f := by
      have e : cnt13 (prune13 x f) f - 1 = 0 := by unfold prune13; rw [cnt13_drop hs _ _ (by omega)]; omega
      have e2 : prune13 (prune13 x f) f = (prune13 x f).drop (cnt13 (prune13 x f) f - 1) := rfl
      rw [e2, e]; rfl
    rw [prune_eq hs hm]
    simp only [Option.bind_some]
    rw [at_eq hs hm, at_eq hps hpm, at13_prune hs (by omega), hright_eq hpm.1, hr, changed_eq hs hm, changed_eq hps hpm, hch, prune_eq hps hpm, hpp]
    simp only [Option.bind_some, beq_self_eq_true, if_true, same_eq hpm.1]
    simpa using hle
  · have g2 : decide ((l.length : Int) > 20) = true := by simp; omega
    simp only [g2]; rfl

theorem cnt13_all {l : Vs} {t : Int} (h : ∀ v ∈ l, v.Seq ≤ t) : cnt13 l t = l.length := by
  unfold cnt13
  induction l with
  | nil => rfl
  | cons v l ih =>
    rw [List.takeWhile_cons_of_pos (by simpa using h v (List.mem_cons_self ..))]
    simp [ih fun v hv => h v (List.mem_cons_of_mem _ hv)]

theorem histOrder_eq {l : List Int} {q t : Int} {data : List Int} (hl : Byt l) (hq : 0 ≤ q ∧ q < 256) (ht : 0 ≤ t ∧ t < 256) : mementolaw13_HistOrder l q t data = some true := by
  unfold mementolaw13_HistOrder
  rw [known13]
  simp only [Option.bind_some, Bool.not_true, Bool.false_eq_true, if_false]
  by_cases h2 : l.length ≤ 20
  · by_cases h3 : data.length ≤ 20
    · have g2 : decide ((l.length : Int) > 20) = false := by simp; omega
      have g3 : decide ((data.length : Int) > 20) = false := by simp; omega
      simp only [g2, g3, Bool.false_eq_true, if_false, Option.bind_some]
      rw [some13_eq hl h2, wrap64 (n := q) (by omega) (by omega), wrap64 (n := t) (by omega) (by omega), wrap64 (n := q + t) (by omega) (by omega), wrap64 (n := q - 1) (by omega) (by omega)]
      simp only [Option.bind_some]
      have hs := sm13_srt l 0
      have hm := sm13_sml h2 0
      have hpos : ∀ v ∈ sm13 0 l, 1 ≤ v.Seq := fun v hv => by have := sm13_mem l 0 v hv; omega
      have hxl : (sm13 0 l).length ≤ 20 := by rw [sm13_len]; exact h2
      generalize sm13 0 l = x at hs hm hpos hxl
      -- the last one
      obtain ⟨last, e1, e2, e3⟩ : ∃ last : Int, (if (decide ((x.length : Int) > 0)) then ((idx x (IntKind.wrap .i64 ((x.length : Int) - 1))).bind fun x => (some x.Seq)) else (some 0)) = some last ∧ (∀ v ∈ x, v.Seq ≤ last) ∧ (x = [] ∧ last = 0 ∨ ∃ v, x.getLast? = some v ∧ last = v.Seq) := by
        by_cases hx : x = []
        · subst hx; exact ⟨0, by simp, by simp, .inl ⟨rfl, rfl⟩⟩
        · have hp := List.length_pos_iff.2 hx
          have hlt : x.length - 1 < x.length := by omega
          refine ⟨x[x.length - 1].Seq, ?_, fun v hv => ?_, .inr ⟨x[x.length - 1], ?_, rfl⟩⟩
          · rw [if_pos (by simp; omega)]
            have e : IntKind.wrap .i64 ((x.length : Int) - 1) = ((x.length - 1 : Nat) : Int) := by rw [wrap64 (by omega) (by omega)]; omega
            rw [e, idx_at hlt]; rfl
          · obtain ⟨k, hk, rfl⟩ := List.getElem_of_mem hv
            rcases Nat.lt_or_ge k (x.length - 1) with h | h
            · exact Int.le_of_lt (List.pairwise_iff_getElem.1 hs k (x.length - 1) hk hlt h)
            · have : k = x.length - 1 := by omega
              subst this; exact Int.le_refl _
          · rw [List.getLast?_eq_getElem?, List.getElem?_eq_getElem hlt]
      rw [e1, add_eq hm (by omega)]
      simp only [Option.bind_some]
      by_cases hle : q ≤ last
      · rw [if_pos (by simpa using hle)]
        have : add13 x q data = x := by
          unfold add13
          rw [if_pos]
          unfold may13
          rcases e3 with ⟨rfl, rfl⟩ | ⟨v, h1, rfl⟩
          · have : q < 1 := by omega
            simp [this]
          · rw [h1]; simp [hle]
        rw [this, same_eq hm.1]; rfl
      · rw [if_neg (by simpa using hle)]
        have hl0 : 0 ≤ last := by
          rcases e3 with ⟨_, rfl⟩ | ⟨v, h1, rfl⟩
          · omega
          · have := hpos v (List.mem_of_getLast? h1); omega
        have hy : add13 x q data = x ++ [⟨q, data⟩] := by
          unfold add13
          rw [if_neg]
          unfold may13
          have c1 : decide (q < 1) = false := by simp; omega
          have c2 : decide (q > 1099511627776) = false := by simp; omega
          rw [c1, c2]
          rcases e3 with ⟨rfl, rfl⟩ | ⟨v, h1, rfl⟩
          · simp
          · rw [h1]; simp; omega
        rw [hy]
        have hys : Srt (x ++ [⟨q, data⟩]) := List.pairwise_append.2 ⟨hs, List.pairwise_singleton _ _, fun a ha b hb => by simp at hb; subst hb; have := e2 a ha; simp only; omega⟩
        have hym : Sml (x ++ [⟨q, data⟩]) := ⟨by
          simp; omega, fun v hv => by
          rcases List.mem_append.1 hv with hv | hv
          · exact hm.2 v hv
          · simp at hv; subst hv; simp only; omega⟩
        have n1 : cnt13 (x ++ [⟨q, data⟩]) (q + t) = x.length + 1 := by
          rw [cnt13_all fun v hv => by
            rcases List.mem_append.1 hv with hv | hv
            · have := e2 v hv; omega
            · simp at hv; subst hv; simp only; omega]
          simp
        have n2 : cnt13 (x ++ [⟨q, data⟩]) (q - 1) = x.length := by
          unfold cnt13
          rw [List.takeWhile_append_of_pos fun v hv => by have := e2 v hv; simp; omega, List.takeWhile_cons_of_neg (by simp; omega)]
          simp
        have n3 : cnt13 x (q - 1) = x.length := cnt13_all fun v hv => by have := e2 v hv; omega
        have n4 : cnt13 (x ++ [⟨q, data⟩]) q = x.length + 1 := by
          rw [cnt13_all fun v hv => by
            rcases List.mem_append.1 hv with hv | hv
            · have := e2 v hv; omega
            · simp at hv; subst hv; simp only; omega]
          simp
        have a1 : at13 (x ++ [⟨q, data⟩]) (q + t) = (data, true) := by unfold at13; rw [n1, if_neg (by omega)]; simp
        have a2 : at13 (x ++ [⟨q, data⟩]) (q - 1) = at13 x (q - 1) := by
          unfold at13; rw [n2, n3]
          by_cases h0 : x.length = 0
          · simp [h0]
          · rw [if_neg h0, if_neg h0, List.getElem?_append_left (by omega)]
        have a3 : changed13 (x ++ [⟨q, data⟩]) (q - 1) q = true := by unfold changed13; rw [n2, n4]; simp
        rw [at_eq hys hym, at_eq hys hym, at_eq hs hm, a1, a2, changed_eq hys hym, a3]
        have e5 : (((x ++ [⟨q, data⟩] : Vs).length : Int) == IntKind.wrap .i64 ((x.length : Int) + 1)) = true := by
          rw [wrap64 (by omega) (by omega)]; simp
        simp only [e5, if_true, Option.bind_some, beq_self_eq_true]
    · have g2 : decide ((l.length : Int) > 20) = false := by simp; omega
      have g3 : decide ((data.length : Int) > 20) = true := by simp; omega
      simp only [g2, g3]; rfl
  · have g2 : decide ((l.length : Int) > 20) = true := by simp; omega
    simp only [g2]; rfl

theorem histCounts_eq {l : List Int} {f : Int} (hl : Byt l) (hf : 0 ≤ f ∧ f < 256) : mementolaw13_HistCounts l f = some true := by
  unfold mementolaw13_HistCounts
  rw [known13]
  simp only [Option.bind_some, Bool.not_true, Bool.false_eq_true, if_false]
  by_cases h2 : l.length ≤ 20
  · have g2 : decide ((l.length : Int) > 20) = false := by simp; omega
    simp only [g2, Bool.false_eq_true, if_false]
    rw [some13_eq hl h2, wrap64 (n := f) (by omega) (by omega)]
    simp only [Option.bind_some]
    have hs := sm13_srt l 0
    have hm := sm13_sml h2 0
    generalize sm13 0 l = x at hs hm
    have hxl := hm.1
    have hc := cnt13_le x f
    have hloop : loopN (mementolaw13_HistCounts_L1 f x) fuel (0, 0, 0) = some (((x.length - cnt13 x f : Nat) : Int), ((min 1 (cnt13 x f) : Nat) : Int)) := by
      refine loop_eqF (fun s => ∃ i : Nat, s = (((i - cnt13 x f : Nat) : Int), ((min (min 1 i) (cnt13 x f) : Nat) : Int), (i : Int)) ∧ i ≤ x.length) (fun s => (x.length - s.2.2).toNat) (fun _ => _) ⟨0, by simp, by omega⟩ (by simp; omega) ?_
      rintro _ ⟨i, rfl, hi⟩
      simp only [mementolaw13_HistCounts_L1]
      by_cases hil : i < x.length
      · right
        rw [if_pos (by simpa using hil), idx_at hil, wrap64 (n := f) (by omega) (by omega)]
        simp only [Option.bind_some]
        have g := cnt13_get hs f hil
        refine ⟨(((i + 1 - cnt13 x f : Nat) : Int), ((min (min 1 (i + 1)) (cnt13 x f) : Nat) : Int), ((i + 1 : Nat) : Int)), ?_, ⟨i + 1, rfl, hil⟩, by simp only; omega, by first | trivial | rfl⟩
        by_cases hq : x[i].Seq > f
        · have := g.1 hq
          rw [if_pos (by simpa using hq)]
          simp only [Option.bind_some, Option.some.injEq, Ctl.go.injEq, Prod.mk.injEq]
          rw [wrap64 (by omega) (by omega), wrap64 (by omega) (by omega)]
          omega
        · have : i < cnt13 x f := by omega
          rw [if_neg (by simpa using hq)]
          simp only [Option.bind_some, Option.some.injEq, Ctl.go.injEq, Prod.mk.injEq]
          rw [wrap64 (by omega) (by omega)]
          omega
      · left
        have : i = x.length := by omega
        subst this
        rw [if_neg (by simp)]
        simp only [early, Option.map_some, Option.some.injEq, Ctl.ret.injEq, Prod.mk.injEq]
        refine ⟨trivial, ?_⟩
        omega
    rw [hloop, prune_eq hs hm]
    simp only [Option.bind_some]
    have hpl : (prune13 x f).length = x.length - (cnt13 x f - 1) := by unfold prune13; simp
    have e1 : IntKind.wrap .i64 (((x.length - cnt13 x f : Nat) : Int) + ((min 1 (cnt13 x f) : Nat) : Int)) = ((prune13 x f).length : Int) := by
      rw [wrap64 (by omega) (by omega), hpl]; omega
    have e2 : IntKind.wrap .i64 ((x.length : Int) - ((prune13 x f).length : Int)) = ((cnt13 x f - 1 : Nat) : Int) := by
      rw [wrap64 (by omega) (by omega), hpl]; omega
    rw [e1, e2, slc_nat x (by omega) (Nat.le_refl _)]
    have e3 : (x.take x.length).drop (cnt13 x f - 1) = prune13 x f := by unfold prune13; simp
    simp only [beq_self_eq_true, if_true, Option.bind_some, e3, same_eq (prune13_sml hm f).1]
  · have g2 : decide ((l.length : Int) > 20) = true := by simp; omega
    simp only [g2]; rfl

end Go.Proofs.Ytjckcocakjaaeaa.Am
