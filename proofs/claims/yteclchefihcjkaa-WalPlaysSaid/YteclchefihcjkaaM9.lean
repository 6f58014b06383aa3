/- Operations: append (the rule), copy, clear, the bytes of a text. -/
import Derived.Test.YteclchefihcjkaaM8
namespace Go.Proofs.Yteclchefihcjkaa.Am
open Go

theorem PR.one {ro : Nat → Nat → Option Value} {p : PV} {v : Value} (h : PR ro p v) : v.oneCell' = true := by
  cases h with
  | sc v h => exact h
  | nil => rfl
  | sl => rfl

section
variable {P : Program} {fr : Frm} {H : Mem} {K : AV → Mem → Prop} {dst : Option Nat} {ty : TypeId} {pos : String} {after : Array Edge} {guard : Option (Nat × Bool)}

theorem sliceStr_spec {u : TypeId} (h : sliceStr P u = true) : ∃ du, P.underlying u = some du ∧ (du = .string ∨ ∃ e', du = .slice e') := by
  unfold sliceStr at h
  split at h
  · rename_i h1; exact ⟨_, h1, .inl rfl⟩
  · rename_i e h1; exact ⟨_, h1, .inr ⟨e, rfl⟩⟩
  · cases h

theorem lists_get {ro : Nat → Nat → Option Value} {es ses : List (List PV)} {olds news : List Value} (hl : olds.length = es.flatten.length) (h1 : ∀ (k : Nat) p, es.flatten[k]? = some p → ∃ v, olds[k]? = some v ∧ PR ro p v)
    (h2 : ∀ (k : Nat) p, ses.flatten[k]? = some p → ∃ v, news[k]? = some v ∧ PR ro p v) : ∀ (k : Nat) p, (es ++ ses).flatten[k]? = some p → ∃ v, (olds ++ news)[k]? = some v ∧ PR ro p v := by
  intro k p hk
  rw [List.flatten_append] at hk
  rcases Nat.lt_or_ge k es.flatten.length with h | h
  · rw [List.getElem?_append_left h] at hk
    rw [List.getElem?_append_left (by omega)]
    exact h1 k p hk
  · rw [List.getElem?_append_right h] at hk
    rw [List.getElem?_append_right (by omega), hl]
    exact h2 _ p hk

/-- Nothing comes to a slice that is nil, or has no room. -/
theorem nil_fresh {g : Gh} {w : World} {m sz : Nat} (hm : MR g H w) (h : aFresh m sz [] H K) : Ls P (SR H.length g w K) (.ok (.value (.slice none 0 0)) w) := by
  match m, h with
  | 0, h => exact sr_here hm (.nil sz .no fun t e => by cases e) h
  | 1, h =>
    obtain ⟨m1, m2⟩ := hm.push_void
    exact ⟨_, _, _, h, .nil sz _ (fun t e => by cases e; simp), m1, m2, by simp⟩
  | m + 2, h =>
    obtain ⟨m1, m2⟩ := hm.push_none
    exact ⟨_, _, _, h, .hn _ 0 sz none (by simp), m1, m2, by simp⟩

theorem opS_append {t u : TypeId} {x y : Operand} (m : Nat) (h : aAppend P m t u (aev fr x) (aev fr y) H K) : OpS P ⟨dst, .call ⟨.builtin .append, #[x, y], #[t, u]⟩, ty, pos, after, guard⟩ fr H K := fun g w ev hop hm => by
  have hx := hop x (by simp [Op.operands, Call.operands])
  have hy := hop y (by simp [Op.operands, Call.operands])
  obtain ⟨hu0, h⟩ := h
  obtain ⟨du, hu, hdu⟩ := sliceStr_spec hu0
  have go : ∀ v w1, (Builtin.append_ #[t, u] ty #[ev x, ev y]).run P w = .ok v w1 → (execOp ev ⟨dst, .call ⟨.builtin .append, #[x, y], #[t, u]⟩, ty, pos, after, guard⟩).run P w = .ok (.value v) w1 := fun v w1 hr => by
    rw [execOp_b, b_append]
    simp only [List.map_toArray, List.map_cons, List.map_nil, Sem.run_bind, hr, Result.andThen_ok, Sem.run_pure]
  generalize aev fr x = ax at *
  generalize aev fr y = ay at *
  generalize ev x = vx at *
  generalize ev y = vy at *
  split at h
  · rename_i e ht
    split at h
    · rename_i sz by_ zv hti
      obtain ⟨hzc, h⟩ := h
      split at h
      · rename_i ses hsrc
        obtain ⟨s1, s2, news, s3, s4, s5⟩ := run_src hsrc hm hy
        have hnews_w := s4 w rfl
        have hnews_d := s4 w.drew rfl
        -- nothing comes: the slice itself
        have none_comes : ∀ (base : Option Addr) (len cap : Nat), len ≤ cap → ses = [] → (Builtin.append_ #[t, u] ty #[.slice base len cap, vy]).run P w = .ok (.slice base len cap) w := fun base len cap hl he => by
          subst he
          have hn0 : news = [] := by cases news with | nil => rfl | cons a l => simp at s3
          subst hn0
          have := run_room (P := P) (ty := ty) (sLen := len) (sCap := cap) (base := base) (w1 := w) ht hu hdu hti s2 (by simpa using hl) hnews_w (fun a _ => rfl) (fun _ => rfl)
          simpa using this
        -- it grows
        have grows : ∀ (base : Option Addr) (es : List (List PV)) (cap : Nat) (olds : List Value), cap < es.length + ses.length → (es.length + ses.length) * by_ ≤ 140737488355328 → es.length + ses.length ≤ 9223372036854775807 →
            (Builtin.firstCells sz es.length (.slice base es.length cap)).run P w.drew = .ok olds.toArray w.drew → olds.length = es.length * sz → (∀ e, e ∈ es → e.length = sz) →
            (∀ (k : Nat) p, es.flatten[k]? = some p → ∃ v, olds[k]? = some v ∧ PR g.ro p v) → ∀ m', aFresh m' sz (es ++ ses) H K →
            ∃ v w1, (Builtin.append_ #[t, u] ty #[.slice base es.length cap, vy]).run P w = .ok v w1 ∧ Ls P (SR H.length g w K) (.ok (.value v) w1) := fun base es cap olds c1 c2 c3 c4 c5 c6 c7 m' c8 => by
          obtain ⟨c, w1, cap', q1, q2, q3, q4, q5⟩ := run_grow (P := P) (ty := ty) (x := vy) ht hu hdu hti hzc s2 c1 c2 c3 c4 hnews_d c5 s3
          refine ⟨_, w1, q1, ?_⟩
          have hz' : ∀ x, x ∈ es ++ ses → x.length = sz := fun x hx => by
            rcases List.mem_append.1 hx with hx | hx
            · exact c6 x hx
            · exact s1 x hx
          have := fresh_sound (P := P) (K := K) (m := m') (cap := cap') hm q2 hz' (fun k p hk => by
            obtain ⟨v, r1, r2⟩ := lists_get (by rw [flatten_length c6]; exact c5) c7 s5 k p hk
            exact ⟨v, by rw [q5 k (lt_of_get r1)]; exact r1, r2⟩) (by simpa using q3) q4 c8
          simpa using this
        cases hx with
        | sc =>
          split at h
          · rename_i eq
            cases eq
            obtain ⟨hb, h63, h⟩ := h
            by_cases he : ses = []
            · have hr := none_comes none 0 0 (Nat.le_refl _) he
              rw [go _ _ hr]
              subst he
              exact nil_fresh hm h
            · have hpos : 0 < ses.length := List.length_pos_iff.2 he
              obtain ⟨v, w1, q1, q2⟩ := grows none [] 0 [] (by simpa using hpos) (by simpa using hb) (by simpa using h63) (run_firstCells_none _ _ _ _ _) (by simp) (fun e h => by cases h) (fun k p hk => by simp at hk) m h
              rw [go _ _ q1]; exact q2
          all_goals first | (rename_i eq; cases eq) | exact h.elim
        | nil z' =>
          rename_i k hk
          cases k with
          | no =>
            obtain ⟨rfl, he, h⟩ := h
            rw [go _ _ (none_comes none 0 0 (Nat.le_refl _) he)]
            exact sr_here hm (.nil z' .no hk) h
          | ex =>
            obtain ⟨rfl, hb, h63, h2m, h⟩ := h
            by_cases he : ses = []
            · rw [go _ _ (none_comes none 0 0 (Nat.le_refl _) he)]
              subst he
              exact nil_fresh hm h
            · have hpos : 0 < ses.length := List.length_pos_iff.2 he
              obtain ⟨v, w1, q1, q2⟩ := grows none [] 0 [] (by simpa using hpos) (by simpa using hb) (by simpa using h63) (run_firstCells_none _ _ _ _ _) (by simp) (fun e h => by cases h) (fun k p hk => by simp at hk) m h
              rw [go _ _ q1]; exact q2
          | tk tt =>
            obtain ⟨rfl, htok, hb, h63, h⟩ := h
            have hl2 : (H.set tt Ent.dead).length = H.length := by simp
            by_cases he : ses = []
            · rw [go _ _ (none_comes none 0 0 (Nat.le_refl _) he)]
              subst he
              obtain ⟨m1, m2⟩ := hm.move_tok htok
              exact ⟨_, _, _, h, .nil z' _ (fun t e => by cases e; simp), m1, m2, by simp⟩
            · have hpos : 0 < ses.length := List.length_pos_iff.2 he
              have hkill := hm.kill tt
              obtain ⟨c, w1, cap', q1, q2, q3, q4, q5⟩ := run_grow (P := P) (ty := ty) (x := vy) (base := none) (sLen := 0) (sCap := 0) (olds := []) ht hu hdu hti hzc s2 (by simpa using hpos) (by simpa using hb) (by simpa using h63) (run_firstCells_none _ _ _ _ _) hnews_d (by simp) s3
              rw [go _ _ q1]
              have := new_tok (P := P) (K := K) (H := H.set tt .dead) (cap := cap') (es := ses) hkill q2 (fun o _ => by simp) s1 (fun k p hk => by
                obtain ⟨v, r1, r2⟩ := s5 k p hk
                exact ⟨v, by rw [q5 k (by simpa using lt_of_get r1)]; simpa using r1, r2⟩) (by simpa using q3) q4 (by rw [hl2]; exact h)
              rw [hl2] at this
              simpa using this
        | sl z' es k a cap f hsp hcap hz hrow hk =>
          have hfl := flatten_length hz
          have holds : ∀ w' : World, w'.heap = w.heap → z' = sz → (Builtin.firstCells sz es.length (.slice (some a) es.length cap)).run P w' = .ok ((List.range (es.length * sz)).map f).toArray w' := fun w' hw hzz => by
            subst hzz
            refine run_firstCells_some w' z' es.length a es.length cap _ (by simp) fun j v hj => ?_
            have hlt := lt_of_get hj
            simp at hlt
            rw [List.getElem?_map, List.getElem?_range hlt] at hj
            simp only [Option.map_some, Option.some.injEq] at hj
            subst hj
            rw [add_plain (hsp.resolve_left (fun h0 => by subst h0; simp_all)), cell_of (w := w) (by rw [hw])]
            exact hm.ro _ _ _ (hrow j (es.flatten[j]'(by omega)) (List.getElem?_eq_getElem (by omega))).1
          have hold_p : z' = sz → ∀ (k : Nat) p, es.flatten[k]? = some p → ∃ v, ((List.range (es.length * sz)).map f)[k]? = some v ∧ PR g.ro p v := fun hzz k p hk => by
            subst hzz
            have hlt := lt_of_get hk
            exact ⟨f k, by rw [List.getElem?_map, List.getElem?_range (by omega)]; rfl, (hrow k p hk).2⟩
          cases k with
          | no =>
            obtain ⟨rfl, he, h⟩ := h
            rw [go _ _ (none_comes (some a) es.length cap hcap he)]
            exact sr_here hm (.sl z' es .no a cap f hsp hcap hz hrow trivial) h
          | ex =>
            obtain ⟨rfl, hb, h63, h2m, h⟩ := h
            by_cases he : ses = []
            · rw [go _ _ (none_comes (some a) es.length cap hcap he)]
              subst he
              rw [List.append_nil] at h
              match m, h2m, h with
              | 0, _, h => exact sr_here hm (.sl z' es .no a cap f hsp hcap hz hrow trivial) h
              | 1, _, h =>
                obtain ⟨m1, m2⟩ := hm.push_void
                refine ⟨_, _, _, h, ?_, m1, m2, by simp⟩
                exact .sl z' es _ a cap f hsp hcap hz (hrow.mono m2.gle.ro) ⟨by simp, .inl hk⟩
              | m + 2, h2m, h =>
                have hes := (h2m (by omega)).resolve_left fun hh => hh rfl
                subst hes
                simp only [Tk.ok, List.length_nil] at hk
                subst hk
                obtain ⟨m1, m2⟩ := hm.push_none
                exact ⟨_, _, _, h, .hn _ 0 z' (some a) (by simp), m1, m2, by simp⟩
            · have hpos : 0 < ses.length := List.length_pos_iff.2 he
              simp only [Tk.ok] at hk
              obtain ⟨v, w1, q1, q2⟩ := grows (some a) es cap _ (by omega) hb h63 (holds w.drew rfl rfl) (by simp) hz (hold_p rfl) m h
              rw [go _ _ q1]; exact q2
          | tk tt =>
            obtain ⟨rfl, htok, hb, h63, h1⟩ := h
            by_cases he : ses = []
            · rw [go _ _ (none_comes (some a) es.length cap hcap he)]
              subst he
              rw [List.append_nil] at h1
              obtain ⟨m1, m2⟩ := hm.move_tok htok
              refine ⟨_, _, _, h1, ?_, m1, m2, by simp⟩
              exact .sl z' es _ a cap f hsp hcap hz (hrow.mono m2.gle.ro) ⟨by simp, hk.2.imp id fun e => by simpa using e⟩
            · have hpos : 0 < ses.length := List.length_pos_iff.2 he
              obtain ⟨hid, hmu⟩ := hk
              have hz' : ∀ x, x ∈ es ++ ses → x.length = z' := fun x hx => by
                rcases List.mem_append.1 hx with hx | hx
                · exact hz x hx
                · exact s1 x hx
              by_cases hroom : es.length + ses.length ≤ cap
              · -- in place
                have hmu := hmu.resolve_left (by omega)
                have hre : ¬ (g.mu tt).l < (g.mu tt).o := by
                  rw [hmu]
                  have := Nat.mul_le_mul_right z' hcap
                  simp only; omega
                obtain ⟨g1, g2, g3⟩ := (hm.ent tt _ htok).resolve_left hre
                obtain ⟨c, el, frz, hblk, hl, hfr⟩ := g2
                rw [hmu] at g1 hblk hl hfr g3
                simp only at g1 hblk hl hfr g3
                have hcapz : a.off + es.length * z' + ses.length * z' ≤ a.off + cap * z' := by
                  have := Nat.mul_le_mul_right z' hroom
                  rw [Nat.add_mul] at this; omega
                obtain ⟨w1, hr, hupd⟩ := run_storeCells (P := P) el frz ⟨a.block, a.off + es.length * z', none⟩ rfl news 0 w c hblk (fun v hv => by
                  obtain ⟨i, hi⟩ := List.getElem?_of_mem hv
                  have hlt := lt_of_get hi
                  have hsf : ses.flatten.length = ses.length * z' := flatten_length s1
                  obtain ⟨u, r1, r2⟩ := s5 i _ (List.getElem?_eq_getElem (by omega))
                  rw [hi] at r1; cases r1
                  exact r2.one) (by simp only [s3]; omega) (fun o o1 o2 => hfr o (by simp only [s3] at o2; omega))
                simp only [Nat.add_zero] at hupd
                have hrun := run_room (P := P) (ty := ty) (sLen := es.length) (sCap := cap) (base := some a) (w1 := w1) ht hu hdu hti s2 hroom hnews_w (fun a' ha' => by cases ha'; rw [add_plain (hsp.resolve_left (fun h0 => by subst h0; simp_all))]; exact hr) (fun e => by cases e)
                rw [go _ _ hrun]
                have hupd' : Upd w w1 (g.mu tt).b (.cells (updA c (a.off + es.length * z') news) el frz) := by rw [hmu]; exact hupd
                obtain ⟨m1, m2⟩ := MR.tok_in (k := ses.length * z') hm htok hre (by rw [hmu]; exact hblk) hupd' (updA_size _ _ _) (fun i hi => by rw [hmu] at hi; exact updA_lt _ _ _ hi)
                refine ⟨_, _, _, h1, ?_, m1, m2, by simp⟩
                have hlen : (es ++ ses).length = es.length + ses.length := by simp
                rw [← hlen]
                refine .sl z' (es ++ ses) _ a cap (fun k => if k < es.flatten.length then f k else news.getD (k - es.flatten.length) undef) hsp (by rw [hlen]; exact hroom) hz' ?_ ?_
                · intro k p hkp
                  rw [List.flatten_append] at hkp
                  rcases Nat.lt_or_ge k es.flatten.length with hk1 | hk1
                  · rw [List.getElem?_append_left hk1] at hkp
                    simp only [if_pos hk1]
                    exact ⟨m2.gle.ro _ _ _ (hrow k p hkp).1, (hrow k p hkp).2.mono m2.gle.ro⟩
                  · rw [List.getElem?_append_right hk1] at hkp
                    simp only [if_neg (Nat.not_lt.2 hk1)]
                    obtain ⟨v, r1, r2⟩ := s5 _ p hkp
                    have e1 : news.getD (k - es.flatten.length) undef = v := by rw [List.getD_eq_getElem?_getD, r1]; rfl
                    rw [e1]
                    refine ⟨?_, r2.mono m2.gle.ro⟩
                    have hlt := lt_of_get r1
                    have hcond : a.block = (g.mu tt).b ∧ (g.mu tt).o ≤ a.off + k ∧ a.off + k < (g.mu tt).o + ses.length * z' := by
                      rw [hmu]
                      refine ⟨rfl, ?_, ?_⟩
                      · show a.off + es.length * z' ≤ a.off + k; omega
                      · show a.off + k < a.off + es.length * z' + ses.length * z'; omega
                    simp only [Gh.addE]
                    rw [if_pos hcond]
                    rw [show a.off + k = a.off + es.length * z' + (k - es.flatten.length) from by omega]
                    exact updA_in _ _ _ r1 (by omega)
                · refine ⟨by simp, .inr ?_⟩
                  simp only [Gh.addE, if_true, hmu, Pl.mk.injEq, true_and, and_true]
                  rw [hlen, Nat.add_mul]; omega
              · -- a new row
                have hkill := hm.kill tt
                obtain ⟨c, w1, cap', q1, q2, q3, q4, q5⟩ := run_grow (P := P) (ty := ty) (x := vy) ht hu hdu hti hzc s2 (by omega) hb h63 (holds w.drew rfl rfl) hnews_d (by simp) s3
                rw [go _ _ q1]
                have hl2 : (H.set tt Ent.dead).length = H.length := by simp
                have := new_tok (P := P) (K := K) (H := H.set tt .dead) (cap := cap') (es := es ++ ses) hkill q2 (fun o _ => by simp) hz' (fun k p hk => by
                  obtain ⟨v, r1, r2⟩ := lists_get (by rw [hfl]; simp) (hold_p rfl) s5 k p hk
                  exact ⟨v, by rw [q5 k (lt_of_get r1)]; exact r1, r2⟩) (by simpa using q3) q4 (by rw [hl2]; exact h1)
                rw [hl2] at this
                simpa using this
        | _ => exact h.elim
      · exact h.elim
    · exact h.elim
  · exact h.elim

end
end Go.Proofs.Yteclchefihcjkaa.Am
