/- So many zeros, appended. -/
import Derived.Test.YteclchefihcjkaaM22
namespace Go.Proofs.Yteclchefihcjkaa.Am
open Go
set_option linter.unusedVariables false

section
variable {P : Program} {fr : Frm} {H : Mem} {K : AV → Mem → Prop} {dst : Option Nat} {ty : TypeId} {pos : String} {after : Array Edge} {guard : Option (Nat × Bool)}

/-- The number that stands for so many zeros. -/
def ZSrc (v : Value) (n by_ sz : Nat) (zv : Value) : Prop := ∃ k, v = .int k (n : Int) ∧ n * by_ ≤ 140737488355328 ∧ n ≤ 9223372036854775807 ∧ zv.cells.size = sz

theorem zeros_src {zv : Value} {zp : List PV} {sz n : Nat} {ses : List (List PV)} (g : Gh) (hzc : (zeroCs zv).length = sz) (hzp : zeroCs zv = zp.map PV.av ∧ zp.all (fun p => match p with | .sc _ => true | _ => false) = true ∧ zv.cells.all Value.oneCell' = true) (hses : List.replicate n zp = ses) :
    ∃ news : List Value, news = (Builtin.zeroCells zv.cells ses.length).toList ∧ (∀ e, e ∈ ses → e.length = sz) ∧ news.length = ses.length * sz ∧ (∀ (k : Nat) p, ses.flatten[k]? = some p → ∃ u, news[k]? = some u ∧ PR g.ro p u) := by
  obtain ⟨z1, z2, z3⟩ := hzp
  have hzs : zv.cells.size = sz := by rw [← hzc]; simp [zeroCs]
  have hzl : zp.length = sz := by rw [← hzc, z1, List.length_map]
  have hsl : ∀ e, e ∈ ses → e.length = sz := fun e he => by rw [← hses] at he; rw [(List.mem_replicate.1 he).2]; exact hzl
  have hnl : (Builtin.zeroCells zv.cells ses.length).toList.length = ses.length * sz := by rw [Array.length_toList, size_zeroCells, hzs]
  refine ⟨_, rfl, hsl, hnl, fun k p hk => ?_⟩
  have hfl : ses.flatten.length = ses.length * sz := flatten_length hsl
  have hlt := lt_of_get hk
  obtain ⟨i, j, e, h1, h2, h3⟩ := uniform_get hsl hk
  have hej : e = zp := by rw [← hses] at h1; have := List.mem_of_getElem? h1; exact (List.mem_replicate.1 this).2
  subst hej
  have hj := lt_of_get h2
  have hjs : j < zv.cells.size := by omega
  have hav : (zeroCs zv)[j]? = some p.av := by rw [z1, List.getElem?_map, h2]; rfl
  have hcell : (zeroCs zv)[j]? = some (AV.sc (zv.cells[j])) := by unfold zeroCs; rw [List.getElem?_map, Array.getElem?_toList, Array.getElem?_eq_getElem hjs]; rfl
  have hp : p = .sc (zv.cells[j]) := by
    rw [hav] at hcell
    have hps := List.all_eq_true.1 z2 p (List.mem_of_getElem? h2)
    cases p with
    | sc v => simp only [PV.av, Option.some.injEq, AV.sc.injEq] at hcell; rw [hcell]
    | sl z es => cases hps
  refine ⟨zv.cells[j], ?_, by rw [hp]; exact .sc _ (Array.all_eq_true.1 z3 j hjs)⟩
  rw [Array.getElem?_toList]
  unfold Builtin.zeroCells
  have hk2 : k < ses.length * zv.cells.size := by rw [hzs]; omega
  rw [Array.getElem?_map, Array.getElem?_range, if_pos hk2]
  simp only [Option.map_some]
  have hm : k % zv.cells.size = j := by rw [h3, hzs, Nat.mul_comm, Nat.mul_add_mod, Nat.mod_eq_of_lt (by omega)]
  rw [hm, getElem!_pos zv.cells j hjs]

theorem run_roomZ {t u ty e : TypeId} {sz by_ : Nat} {zv : Value} {kn : IntKind} (ht : P.underlying t = some (.slice e)) (hu : P.underlying u = some (.int kn)) (hdu : True)
    (hti : tinf P e = some (sz, by_, some zv)) {base : Option Addr} {sLen sCap n : Nat} {x : Value} {w w1 : World} {news : List Value}
    (hn : ZSrc x n by_ sz zv) (hg : sLen + n ≤ sCap) (hnw : news = (Builtin.zeroCells zv.cells n).toList)
    (hst : ∀ a, base = some a → (storeCells (a.add (sLen * sz)) news).run P w = .ok () w1) (hno : base = none → w1 = w) :
    (Builtin.append_ #[t, u] ty #[.slice base sLen sCap, x]).run P w = .ok (.slice base (sLen + n) sCap) w1 := by
  obtain ⟨i, hi, i1, i2, i3⟩ := tinf_info hti
  obtain ⟨k, rfl, hb, h63, hzs⟩ := hn
  have hw : IntKind.i64.wrap (n : Int) = n := by rw [IntKind.wrap_i64]; omega
  have h48i : ¬ (281474976710656 < (n : Int) * (i.bytes : Int)) := by rw [← Int.natCast_mul, i2]; omega
  have hneg : ¬ ((n : Int) < 0) := by omega
  have hz0 : n * i.size = 0 → news = [] := fun h => by
    rw [hnw]
    apply List.length_eq_zero_iff.1
    rw [Array.length_toList, size_zeroCells, hzs, ← i1]
    exact h
  by_cases h0 : n * i.size = 0
  · have hne := hz0 h0
    rw [hne] at hst
    have h0' : n = 0 ∨ i.size = 0 := Nat.mul_eq_zero.1 h0
    cases base with
    | none =>
      have e := hno rfl
      subst e
      simp [Builtin.append_, run_underlying ht, run_underlying hu, sizeOf, typeInfo, zeroValue, asInt, asIntOf, hi, i3, hw, hneg, h48i, hg]
    | some a =>
      have := hst a rfl
      simp only [storeCells, Sem.run_pure, Result.ok.injEq, true_and] at this
      subst this
      simp [Builtin.append_, run_underlying ht, run_underlying hu, sizeOf, typeInfo, zeroValue, asInt, asIntOf, hi, i1, i3, hw, hneg, h48i, hg]
      rcases h0' with h | h <;> simp [h, ← i1, storeCells]
  · have h0' : ¬ (n * sz = 0) := by rw [← i1]; exact h0
    cases base with
    | none =>
      have e := hno rfl
      subst e
      simp [Builtin.append_, run_underlying ht, run_underlying hu, sizeOf, typeInfo, zeroValue, asInt, asIntOf, hi, i1, i3, hw, hneg, h48i, hg, h0']
    | some a =>
      have := hst a rfl
      rw [hnw] at this
      simp [Builtin.append_, run_underlying ht, run_underlying hu, sizeOf, typeInfo, zeroValue, asInt, asIntOf, hi, i1, i3, hw, hneg, h48i, hg, h0', this]

theorem run_growZ {t u ty e : TypeId} {sz by_ : Nat} {zv : Value} {kn : IntKind} (ht : P.underlying t = some (.slice e)) (hu : P.underlying u = some (.int kn)) (hdu : True)
    (hti : tinf P e = some (sz, by_, some zv)) (hzc : (zeroCs zv).length = sz) {base : Option Addr} {sLen sCap n : Nat} {x : Value} {w : World} {olds news : List Value}
    (hn : ZSrc x n by_ sz zv) (hg : sCap < sLen + n) (hfit : (sLen + n) * by_ ≤ 140737488355328) (h63 : sLen + n ≤ 9223372036854775807)
    (ho : (Builtin.firstCells sz sLen (.slice base sLen sCap)).run P w.drew = .ok olds.toArray w.drew) (hnw : news = (Builtin.zeroCells zv.cells n).toList)
    (hol : olds.length = sLen * sz) (hnl : news.length = n * sz) :
    ∃ c w1 cap, (Builtin.append_ #[t, u] ty #[.slice base sLen sCap, x]).run P w = .ok (.slice (some ⟨w.heap.size, 0, none⟩) (sLen + n) cap) w1 ∧ Push w w1 c e (0, 0) ∧ sLen + n ≤ cap ∧ c.size = cap * sz ∧
      ∀ k : Nat, k < (olds ++ news).length → c[k]? = (olds ++ news)[k]? := by
  obtain ⟨i, hi, i1, i2, i3⟩ := tinf_info hti
  obtain ⟨k, rfl, hb, h63n, hzs⟩ := hn
  have hcap : sLen + n ≤ grownCap w (sLen + n) sCap e := by unfold grownCap Question.cut; exact Nat.le_add_right _ _
  have hw : IntKind.i64.wrap (n : Int) = n := by rw [IntKind.wrap_i64]; omega
  have h48i : ¬ (281474976710656 < (n : Int) * (i.bytes : Int)) := by rw [← Int.natCast_mul, i2]; omega
  have hneg : ¬ ((n : Int) < 0) := by omega
  refine ⟨olds.toArray ++ news.toArray ++ Builtin.zeroCells zv.cells (grownCap w (sLen + n) sCap e - (sLen + n)), w.drew.alloc (.cells (olds.toArray ++ news.toArray ++ Builtin.zeroCells zv.cells (grownCap w (sLen + n) sCap e - (sLen + n))) e), grownCap w (sLen + n) sCap e, ?_, ⟨rfl, rfl, rfl, rfl⟩, hcap, ?_, ?_⟩
  · have hneed : ¬ (sLen + n ≤ sCap) := by omega
    have h63' : ¬ (9223372036854775807 < ((sLen : Int) + (n : Int))) := by omega
    have h48 := growslice_fits (bytes := by_) hg hfit
    have h48' : ¬ (281474976710656 < Builtin.nextslicecap (sLen + n) sCap * i.bytes) := by rw [i2]; omega
    have hsz : i.size = sz := i1
    by_cases h0 : n * sz = 0
    · have hne : news = [] := by
        apply List.length_eq_zero_iff.1
        rw [hnl]; exact h0
      subst hne
      simp [Builtin.append_, run_underlying ht, run_underlying hu, sizeOf, typeInfo, zeroValue, asInt, asIntOf, hi, i1, i3, hw, hneg, h48i, hneed, h63', h48', Question.forced, ho, newRow, grownCap, h0]
    · have hza : (Builtin.zeroCells zv.cells n) = news.toArray := by rw [hnw]
      simp [Builtin.append_, run_underlying ht, run_underlying hu, sizeOf, typeInfo, zeroValue, asInt, asIntOf, hi, i1, i3, hw, hneg, h48i, hneed, h63', h48', Question.forced, ho, newRow, grownCap, h0, hza]
      (congr 2; apply Array.ext'; simp [List.append_assoc])
  · simp [hol, hnl, Builtin.zeroCells, hzs]
    rw [← Nat.add_mul, ← Nat.add_mul]
    congr 1
    omega
  · intro k hk
    rw [Array.getElem?_append_left (by simpa using hk)]
    simp

def aAppendZ (P : Program) (m : Nat) (zp : List PV) (n : Nat) (t u : TypeId) (b x : AV) (H : Mem) (K : AV → Mem → Prop) : Prop :=
  (∃ kn, P.underlying u = some (.int kn)) ∧ (∃ kk, x = .sc (.int kk (n : Int))) ∧
  match P.underlying t with
  | some (.slice e) =>
    (match tinf P e with
    | some (sz, by_, some z) => (zeroCs z).length = sz ∧ (zeroCs z = zp.map PV.av ∧ zp.all (fun p => match p with | .sc _ => true | _ => false) = true ∧ z.cells.all Value.oneCell' = true) ∧ n * by_ ≤ 140737488355328 ∧ n ≤ 9223372036854775807 ∧
        (match b with
        | .sc (.slice none 0 0) => (List.replicate n zp).length * by_ ≤ 140737488355328 ∧ (List.replicate n zp).length ≤ 9223372036854775807 ∧ aFresh m sz (List.replicate n zp) H K
        | .sl z' es .ex => z' = sz ∧ (es.length + (List.replicate n zp).length) * by_ ≤ 140737488355328 ∧ es.length + (List.replicate n zp).length ≤ 9223372036854775807 ∧ (2 ≤ m → (List.replicate n zp) ≠ [] ∨ es = []) ∧ aFresh m sz (es ++ (List.replicate n zp)) H K
        | .sl z' es (.tk t) => z' = sz ∧ H[t]? = some .tok ∧ (es.length + (List.replicate n zp).length) * by_ ≤ 140737488355328 ∧ es.length + (List.replicate n zp).length ≤ 9223372036854775807 ∧
          K (.sl sz (es ++ (List.replicate n zp)) (.tk H.length)) (H.set t .dead ++ [.tok])
        | .sl z' es .no => z' = sz ∧ (List.replicate n zp) = [] ∧ K (.sl sz es .no) H
        | _ => False)
    | _ => False)
  | _ => False

theorem opS_appendZ {t u : TypeId} {x y : Operand} (m : Nat) (zp : List PV) (n : Nat) (h : aAppendZ P m zp n t u (aev fr x) (aev fr y) H K) : OpS P ⟨dst, .call ⟨.builtin .append, #[x, y], #[t, u]⟩, ty, pos, after, guard⟩ fr H K := fun g w ev hop hm => by
  have hx := hop x (by simp [Op.operands, Call.operands])
  have hy := hop y (by simp [Op.operands, Call.operands])
  obtain ⟨⟨kn, hu⟩, ⟨kk, hyn⟩, h⟩ := h
  have hdu : True := trivial
  have go : ∀ v w1, (Builtin.append_ #[t, u] ty #[ev x, ev y]).run P w = .ok v w1 → (execOp ev ⟨dst, .call ⟨.builtin .append, #[x, y], #[t, u]⟩, ty, pos, after, guard⟩).run P w = .ok (.value v) w1 := fun v w1 hr => by
    rw [execOp_b, b_append]
    simp only [List.map_toArray, List.map_cons, List.map_nil, Sem.run_bind, hr, Result.andThen_ok, Sem.run_pure]
  generalize aev fr x = ax at *
  generalize aev fr y = ay at *
  generalize ev x = vx at *
  generalize ev y = vy at *
  split at h
  · rename_i e ht
    split at h
    · rename_i sz by_ zv hti
      obtain ⟨hzc, hzp, hb48, h63n, h⟩ := h
      · obtain ⟨ses, hses⟩ : ∃ ses, List.replicate n zp = ses := ⟨_, rfl⟩
        rw [hses] at h
        have hsn : ses.length = n := by rw [← hses, List.length_replicate]
        rw [hyn] at hy
        have hyv := VR_sc hy
        obtain ⟨news, hnews, s1, s3, s5⟩ := zeros_src g hzc hzp hses
        have s2 : ZSrc vy ses.length by_ sz zv := ⟨kk, by rw [hyv, hsn], by rw [hsn]; exact hb48, by rw [hsn]; exact h63n, by rw [← hzc]; simp [zeroCs]⟩
        have hnews_w := hnews
        have hnews_d := hnews
        -- nothing comes: the slice itself
        have none_comes : ∀ (base : Option Addr) (len cap : Nat), len ≤ cap → ses = [] → (Builtin.append_ #[t, u] ty #[.slice base len cap, vy]).run P w = .ok (.slice base len cap) w := fun base len cap hl he => by
          subst he
          have hn0 : news = [] := by cases news with | nil => rfl | cons a l => simp at s3
          subst hn0
          have := run_roomZ (P := P) (ty := ty) (sLen := len) (sCap := cap) (base := base) (w1 := w) ht hu hdu hti s2 (by simpa using hl) hnews_w (fun a _ => rfl) (fun _ => rfl)
          simpa using this
        -- it grows
        have grows : ∀ (base : Option Addr) (es : List (List PV)) (cap : Nat) (olds : List Value), cap < es.length + ses.length → (es.length + ses.length) * by_ ≤ 140737488355328 → es.length + ses.length ≤ 9223372036854775807 →
            (Builtin.firstCells sz es.length (.slice base es.length cap)).run P w.drew = .ok olds.toArray w.drew → olds.length = es.length * sz → (∀ e, e ∈ es → e.length = sz) →
            (∀ (k : Nat) p, es.flatten[k]? = some p → ∃ v, olds[k]? = some v ∧ PR g.ro p v) → ∀ m', aFresh m' sz (es ++ ses) H K →
            ∃ v w1, (Builtin.append_ #[t, u] ty #[.slice base es.length cap, vy]).run P w = .ok v w1 ∧ Ls P (SR H.length g w K) (.ok (.value v) w1) := fun base es cap olds c1 c2 c3 c4 c5 c6 c7 m' c8 => by
          obtain ⟨c, w1, cap', q1, q2, q3, q4, q5⟩ := run_growZ (P := P) (ty := ty) (x := vy) ht hu hdu hti hzc s2 c1 c2 c3 c4 hnews_d c5 s3
          refine ⟨_, w1, q1, ?_⟩
          have hz' : ∀ x, x ∈ es ++ ses → x.length = sz := fun x hx => by
            rcases List.mem_append.1 hx with hx | hx
            · exact c6 x hx
            · exact s1 x hx
          have := fresh_sound (P := P) (K := K) (m := m') (cap := cap') hm q2 hz' (fun k p hk => by
            obtain ⟨v, r1, r2⟩ := lists_get (by rw [flatten_length c6]; exact c5) c7 s5 k p hk
            exact ⟨v, by rw [q5 k (lt_of_get r1)]; exact r1, r2⟩) (by simpa using q3) q4 c8
          simpa using this
        cases hx with
        | sc =>
          split at h
          · rename_i eq
            cases eq
            obtain ⟨hb, h63, h⟩ := h
            by_cases he : ses = []
            · have hr := none_comes none 0 0 (Nat.le_refl _) he
              rw [go _ _ hr]
              subst he
              exact nil_fresh hm h
            · have hpos : 0 < ses.length := List.length_pos_iff.2 he
              obtain ⟨v, w1, q1, q2⟩ := grows none [] 0 [] (by simpa using hpos) (by simpa using hb) (by simpa using h63) (run_firstCells_none _ _ _ _ _) (by simp) (fun e h => by cases h) (fun k p hk => by simp at hk) m h
              rw [go _ _ q1]; exact q2
          all_goals first | (rename_i eq; cases eq) | exact h.elim
        | nil z' =>
          rename_i k hk
          cases k with
          | no =>
            obtain ⟨rfl, he, h⟩ := h
            rw [go _ _ (none_comes none 0 0 (Nat.le_refl _) he)]
            exact sr_here hm (.nil z' .no hk) h
          | ex =>
            obtain ⟨rfl, hb, h63, h2m, h⟩ := h
            by_cases he : ses = []
            · rw [go _ _ (none_comes none 0 0 (Nat.le_refl _) he)]
              subst he
              exact nil_fresh hm h
            · have hpos : 0 < ses.length := List.length_pos_iff.2 he
              obtain ⟨v, w1, q1, q2⟩ := grows none [] 0 [] (by simpa using hpos) (by simpa using hb) (by simpa using h63) (run_firstCells_none _ _ _ _ _) (by simp) (fun e h => by cases h) (fun k p hk => by simp at hk) m h
              rw [go _ _ q1]; exact q2
          | tk tt =>
            obtain ⟨rfl, htok, hb, h63, h⟩ := h
            have hl2 : (H.set tt Ent.dead).length = H.length := by simp
            by_cases he : ses = []
            · rw [go _ _ (none_comes none 0 0 (Nat.le_refl _) he)]
              subst he
              obtain ⟨m1, m2⟩ := hm.move_tok htok
              exact ⟨_, _, _, h, .nil z' _ (fun t e => by cases e; simp), m1, m2, by simp⟩
            · have hpos : 0 < ses.length := List.length_pos_iff.2 he
              have hkill := hm.kill tt
              obtain ⟨c, w1, cap', q1, q2, q3, q4, q5⟩ := run_growZ (P := P) (ty := ty) (x := vy) (base := none) (sLen := 0) (sCap := 0) (olds := []) ht hu hdu hti hzc s2 (by simpa using hpos) (by simpa using hb) (by simpa using h63) (run_firstCells_none _ _ _ _ _) hnews_d (by simp) s3
              rw [go _ _ q1]
              have := new_tok (P := P) (K := K) (H := H.set tt .dead) (cap := cap') (es := ses) hkill q2 (fun o _ => by simp) s1 (fun k p hk => by
                obtain ⟨v, r1, r2⟩ := s5 k p hk
                exact ⟨v, by rw [q5 k (by simpa using lt_of_get r1)]; simpa using r1, r2⟩) (by simpa using q3) q4 (by rw [hl2]; exact h)
              rw [hl2] at this
              simpa using this
        | sl z' es k a cap f hsp hcap hz hrow hk =>
          have hfl := flatten_length hz
          have holds : ∀ w' : World, w'.heap = w.heap → z' = sz → (Builtin.firstCells sz es.length (.slice (some a) es.length cap)).run P w' = .ok ((List.range (es.length * sz)).map f).toArray w' := fun w' hw hzz => by
            subst hzz
            refine run_firstCells_some w' z' es.length a es.length cap _ (by simp) fun j v hj => ?_
            have hlt := lt_of_get hj
            simp at hlt
            rw [List.getElem?_map, List.getElem?_range hlt] at hj
            simp only [Option.map_some, Option.some.injEq] at hj
            subst hj
            rw [add_plain (hsp.resolve_left (fun h0 => by subst h0; simp_all)), cell_of (w := w) (by rw [hw])]
            exact hm.ro _ _ _ (hrow j (es.flatten[j]'(by omega)) (List.getElem?_eq_getElem (by omega))).1
          have hold_p : z' = sz → ∀ (k : Nat) p, es.flatten[k]? = some p → ∃ v, ((List.range (es.length * sz)).map f)[k]? = some v ∧ PR g.ro p v := fun hzz k p hk => by
            subst hzz
            have hlt := lt_of_get hk
            exact ⟨f k, by rw [List.getElem?_map, List.getElem?_range (by omega)]; rfl, (hrow k p hk).2⟩
          cases k with
          | no =>
            obtain ⟨rfl, he, h⟩ := h
            rw [go _ _ (none_comes (some a) es.length cap hcap he)]
            exact sr_here hm (.sl z' es .no a cap f hsp hcap hz hrow trivial) h
          | ex =>
            obtain ⟨rfl, hb, h63, h2m, h⟩ := h
            by_cases he : ses = []
            · rw [go _ _ (none_comes (some a) es.length cap hcap he)]
              subst he
              rw [List.append_nil] at h
              match m, h2m, h with
              | 0, _, h => exact sr_here hm (.sl z' es .no a cap f hsp hcap hz hrow trivial) h
              | 1, _, h =>
                obtain ⟨m1, m2⟩ := hm.push_void
                refine ⟨_, _, _, h, ?_, m1, m2, by simp⟩
                exact .sl z' es _ a cap f hsp hcap hz (hrow.mono m2.gle.ro) ⟨by simp, .inl hk⟩
              | m + 2, h2m, h =>
                have hes := (h2m (by omega)).resolve_left fun hh => hh rfl
                subst hes
                simp only [Tk.ok, List.length_nil] at hk
                subst hk
                obtain ⟨m1, m2⟩ := hm.push_none
                exact ⟨_, _, _, h, .hn _ 0 z' (some a) (by simp), m1, m2, by simp⟩
            · have hpos : 0 < ses.length := List.length_pos_iff.2 he
              simp only [Tk.ok] at hk
              obtain ⟨v, w1, q1, q2⟩ := grows (some a) es cap _ (by omega) hb h63 (holds w.drew rfl rfl) (by simp) hz (hold_p rfl) m h
              rw [go _ _ q1]; exact q2
          | tk tt =>
            obtain ⟨rfl, htok, hb, h63, h1⟩ := h
            by_cases he : ses = []
            · rw [go _ _ (none_comes (some a) es.length cap hcap he)]
              subst he
              rw [List.append_nil] at h1
              obtain ⟨m1, m2⟩ := hm.move_tok htok
              refine ⟨_, _, _, h1, ?_, m1, m2, by simp⟩
              exact .sl z' es _ a cap f hsp hcap hz (hrow.mono m2.gle.ro) ⟨by simp, hk.2.imp id fun e => by simpa using e⟩
            · have hpos : 0 < ses.length := List.length_pos_iff.2 he
              obtain ⟨hid, hmu⟩ := hk
              have hz' : ∀ x, x ∈ es ++ ses → x.length = z' := fun x hx => by
                rcases List.mem_append.1 hx with hx | hx
                · exact hz x hx
                · exact s1 x hx
              by_cases hroom : es.length + ses.length ≤ cap
              · -- in place
                have hmu := hmu.resolve_left (by omega)
                have hre : ¬ (g.mu tt).l < (g.mu tt).o := by
                  rw [hmu]
                  have := Nat.mul_le_mul_right z' hcap
                  simp only; omega
                obtain ⟨g1, g2, g3⟩ := (hm.ent tt _ htok).resolve_left hre
                obtain ⟨c, el, frz, hblk, hl, hfr⟩ := g2
                rw [hmu] at g1 hblk hl hfr g3
                simp only at g1 hblk hl hfr g3
                have hcapz : a.off + es.length * z' + ses.length * z' ≤ a.off + cap * z' := by
                  have := Nat.mul_le_mul_right z' hroom
                  rw [Nat.add_mul] at this; omega
                obtain ⟨w1, hr, hupd⟩ := run_storeCells (P := P) el frz ⟨a.block, a.off + es.length * z', none⟩ rfl news 0 w c hblk (fun v hv => by
                  obtain ⟨i, hi⟩ := List.getElem?_of_mem hv
                  have hlt := lt_of_get hi
                  have hsf : ses.flatten.length = ses.length * z' := flatten_length s1
                  obtain ⟨u, r1, r2⟩ := s5 i _ (List.getElem?_eq_getElem (by omega))
                  rw [hi] at r1; cases r1
                  exact r2.one) (by simp only [s3]; omega) (fun o o1 o2 => hfr o (by simp only [s3] at o2; omega))
                simp only [Nat.add_zero] at hupd
                have hrun := run_roomZ (P := P) (ty := ty) (sLen := es.length) (sCap := cap) (base := some a) (w1 := w1) ht hu hdu hti s2 hroom hnews_w (fun a' ha' => by cases ha'; rw [add_plain (hsp.resolve_left (fun h0 => by subst h0; simp_all))]; exact hr) (fun e => by cases e)
                rw [go _ _ hrun]
                have hupd' : Upd w w1 (g.mu tt).b (.cells (updA c (a.off + es.length * z') news) el frz) := by rw [hmu]; exact hupd
                obtain ⟨m1, m2⟩ := MR.tok_in (k := ses.length * z') hm htok hre (by rw [hmu]; exact hblk) hupd' (updA_size _ _ _) (fun i hi => by rw [hmu] at hi; exact updA_lt _ _ _ hi)
                refine ⟨_, _, _, h1, ?_, m1, m2, by simp⟩
                have hlen : (es ++ ses).length = es.length + ses.length := by simp
                rw [← hlen]
                refine .sl z' (es ++ ses) _ a cap (fun k => if k < es.flatten.length then f k else news.getD (k - es.flatten.length) undef) hsp (by rw [hlen]; exact hroom) hz' ?_ ?_
                · intro k p hkp
                  rw [List.flatten_append] at hkp
                  rcases Nat.lt_or_ge k es.flatten.length with hk1 | hk1
                  · rw [List.getElem?_append_left hk1] at hkp
                    simp only [if_pos hk1]
                    exact ⟨m2.gle.ro _ _ _ (hrow k p hkp).1, (hrow k p hkp).2.mono m2.gle.ro⟩
                  · rw [List.getElem?_append_right hk1] at hkp
                    simp only [if_neg (Nat.not_lt.2 hk1)]
                    obtain ⟨v, r1, r2⟩ := s5 _ p hkp
                    have e1 : news.getD (k - es.flatten.length) undef = v := by rw [List.getD_eq_getElem?_getD, r1]; rfl
                    rw [e1]
                    refine ⟨?_, r2.mono m2.gle.ro⟩
                    have hlt := lt_of_get r1
                    have hcond : a.block = (g.mu tt).b ∧ (g.mu tt).o ≤ a.off + k ∧ a.off + k < (g.mu tt).o + ses.length * z' := by
                      rw [hmu]
                      refine ⟨rfl, ?_, ?_⟩
                      · show a.off + es.length * z' ≤ a.off + k; omega
                      · show a.off + k < a.off + es.length * z' + ses.length * z'; omega
                    simp only [Gh.addE]
                    rw [if_pos hcond]
                    rw [show a.off + k = a.off + es.length * z' + (k - es.flatten.length) from by omega]
                    exact updA_in _ _ _ r1 (by omega)
                · refine ⟨by simp, .inr ?_⟩
                  simp only [Gh.addE, if_true, hmu, Pl.mk.injEq, true_and, and_true]
                  rw [hlen, Nat.add_mul]; omega
              · -- a new row
                have hkill := hm.kill tt
                obtain ⟨c, w1, cap', q1, q2, q3, q4, q5⟩ := run_growZ (P := P) (ty := ty) (x := vy) ht hu hdu hti hzc s2 (by omega) hb h63 (holds w.drew rfl rfl) hnews_d (by simp) s3
                rw [go _ _ q1]
                have hl2 : (H.set tt Ent.dead).length = H.length := by simp
                have := new_tok (P := P) (K := K) (H := H.set tt .dead) (cap := cap') (es := es ++ ses) hkill q2 (fun o _ => by simp) hz' (fun k p hk => by
                  obtain ⟨v, r1, r2⟩ := lists_get (by rw [hfl]; simp) (hold_p rfl) s5 k p hk
                  exact ⟨v, by rw [q5 k (lt_of_get r1)]; exact r1, r2⟩) (by simpa using q3) q4 (by rw [hl2]; exact h1)
                rw [hl2] at this
                simpa using this
        | _ => exact h.elim
    · exact h.elim
  · exact h.elim

theorem mks_eq {α : Type} {b : Nat} {a : α} {n : Int} {l : List α} (h : mks b a n = some l) : 0 ≤ n ∧ b * n ≤ 140737488355328 ∧ n ≤ 9223372036854775807 ∧ l = List.replicate n.toNat a := by
  unfold mks at h
  split at h
  · rename_i q; cases h; exact ⟨q.1, q.2.1, q.2.2, rfl⟩
  · cases h

/-- Zeros behind what has spare room. -/
theorem o_appZT {α : Type} {c : α → List PV} {t u e : TypeId} {x y : Operand} {s b tk : Nat} {z : Value} {a : α} {l l2 m : List α} {kk kn : IntKind} {n : Int} {H1 : Mem} (hx : aev fr x = .sl s (l.map c) (.tk tk)) (hk : H[tk]? = some .tok) (hy : aev fr y = .sc (.int kk n)) (hn : mks b a n = some l2)
    (hzp : zeroCs z = (c a).map PV.av ∧ (c a).all (fun p => match p with | .sc _ => true | _ => false) = true ∧ z.cells.all Value.oneCell' = true)
    (hu : P.underlying t = some (.slice e)) (hu2 : P.underlying u = some (.int kn)) (hti : tinf P e = some (s, b, some z)) (hz : (zeroCs z).length = s) (happ : app b l l2 = some m) (hM : H1 = H.set tk .dead ++ [.tok]) :
    OpS P ⟨dst, .call ⟨.builtin .append, #[x, y], #[t, u]⟩, ty, pos, after, guard⟩ fr H (Det (.sl s (m.map c) (.tk H.length)) H1) := by
  obtain ⟨n0, n1, n2, rfl⟩ := mks_eq hn
  obtain ⟨h1, h2, rfl⟩ := app_some happ
  rw [List.length_replicate] at h1 h2
  have hb : n.toNat * b ≤ 140737488355328 := Nat.le_trans (Nat.mul_le_mul_right b (by omega)) h1
  refine opS_appendZ 1 (c a) n.toNat ⟨⟨kn, hu2⟩, ⟨kk, by rw [hy, Int.toNat_of_nonneg n0]⟩, ?_⟩
  simp only [hu, hti, hx, List.length_map, List.length_replicate]
  refine ⟨hz, hzp, hb, by omega, trivial, hk, h1, h2, ?_, hM.symm⟩
  rw [List.map_append, List.map_replicate]
  exact .refl _

/-- An array of few, built. -/
theorem o_buildA {t e n : TypeId} {ps : Array (Nat × Operand)} {s b se be : Nat} {z : Value} {ze : Option Value} {cs : List AV} {r : AV} (hti : tinf P t = some (s, b, some z)) (hu : P.underlying t = some (.array n e)) (hte : tinf P e = some (se, be, ze))
    (hf : afill (fun i => some (i * se, se)) (zeroCs z) (ps.toList.map fun x => (x.1, aev fr x.2)) = some cs) (hr : AVLe (.ag cs) r) : OpS P ⟨dst, .build t ps, ty, pos, after, guard⟩ fr H (Det r H) := opS_build (by
  simp only [aBuild, hti, hu, hte, hf]
  exact ⟨hr, rfl⟩)
/-- An element of an array, by a number that is known. -/
theorem o_indexAddrC {t e n : Nat} {x y : Operand} {s b : Nat} {zz : Option Value} {id off : Nat} {kk : IntKind} {i : Int} (hu : P.underlying t = some (.array n e)) (hti : tinf P e = some (s, b, zz)) (hx : aev fr x = .pt id off)
    (hy : aev fr y = .sc (.int kk i)) (h0 : 0 ≤ i) (h1 : i < n) {o : Nat} (ho : off + i.toNat * s = o) : OpS P ⟨dst, .indexAddr t x y, ty, pos, after, guard⟩ fr H (Det (.pt id o) H) := opS_indexAddr (by
  simp only [aIndexAddr, hu, hti, hx, hy]
  rw [ho]
  exact ⟨h0, h1, .refl _, rfl⟩)
end
end Go.Proofs.Yteclchefihcjkaa.Am
