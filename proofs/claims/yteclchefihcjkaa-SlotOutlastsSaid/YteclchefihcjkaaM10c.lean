/- Operations on slices of one's own cells: clear. -/
import Derived.Test.YteclchefihcjkaaM10b
namespace Go.Proofs.Yteclchefihcjkaa.Am
open Go

/-- Cells of one's own, written to behind their end, go by another entry from here on. -/
theorem MR.regrow {g : Gh} {H : Mem} {w w1 : World} {id o : Nat} {cs acs : List AV} {c c' : Array Value} {e : TypeId} {frz : Nat × Nat} (hm : MR g H w) (hid : H[id]? = some (.cells cs))
    (hon : (g.mu id).o ≤ (g.mu id).l) (hb : w.heap[(g.mu id).b]? = some (.cells c e frz)) (hu : Upd w w1 (g.mu id).b (.cells c' e frz)) (hs : c'.size = c.size) (hl : (g.mu id).o + o + acs.length ≤ (g.mu id).l)
    (hv : ∀ (k : Nat) a, acs[k]? = some a → ∃ v, c'[(g.mu id).o + o + k]? = some v ∧ VR g H.length a v) :
    MR (g.addE H.length ⟨(g.mu id).b, (g.mu id).o + o, (g.mu id).l⟩) (H.set id .dead ++ [.cells acs]) w1 ∧
    Ev H.length g w (g.addE H.length ⟨(g.mu id).b, (g.mu id).o + o, (g.mu id).l⟩) w1 := by
  obtain ⟨h1, h2, h3, h4, h5⟩ := hm.owned hid (.inr hon)
  have hlt := (hm.ow _ _ h1).1
  have hgle : Gle H.length g (g.addE H.length ⟨(g.mu id).b, (g.mu id).o + o, (g.mu id).l⟩) := ⟨fun _ _ _ h => h, fun i hi => by simp only [Gh.addE]; rw [if_neg (by omega)]⟩
  refine ⟨⟨fun b o' v hro => ?_, fun id' x hx => ?_, fun b id' ho => ?_⟩, ⟨hgle, fun b hb' ho => ?_, by rw [hu.size]; omega, hu.os, hu.tape, hu.output⟩⟩
  · have := hm.ro b o' v hro
    rw [hu.cell_other]
    · exact this
    · intro hbb; simp only at hbb; simp only [Gh.addE] at hro; rw [hbb, h4] at hro; cases hro
  · rcases get_snoc hx with hx | ⟨rfl, rfl⟩
    · rcases get_set hx with ⟨hne, hx⟩ | ⟨rfl, rfl, _⟩
      · have hid' := lt_of_get hx
        have he := hm.ent id' x hx
        rcases he.own hid' with hfr' | hown
        · exact hfr' _ _ _ hgle
        · refine he.keep hid' hgle (by simp) fun b hown => ?_
          have hbb : b ≠ (g.mu id).b := fun hbb => by rw [hbb, h1] at hown; cases hown; exact hne rfl
          refine ⟨?_, fun _ => rfl, hu.other hbb⟩
          simp only [Gh.addE]; rw [if_neg hbb]; exact hown
      · trivial
    · have hlen : (H.set id Ent.dead).length = H.length := by simp
      simp only [EntR, Gh.addE, hlen, if_true]
      refine .inr ⟨trivial, ?_, hl, h4, fun k a ha => ?_⟩
      · obtain ⟨c2, e2, fr2, g1, g2, g3⟩ := h2
        rw [hb] at g1; cases g1
        exact ⟨c', e, frz, hu.same hlt, by omega, g3⟩
      · obtain ⟨v, k1, k2⟩ := hv k a ha
        refine ⟨v, ?_, (k2.mono hgle (by simp : H.length ≤ (H.set id Ent.dead ++ [Ent.cells acs]).length))⟩
        unfold World.cell?
        rw [hu.same hlt]; exact k1
  · simp only [Gh.addE] at ho
    rw [hu.size]
    by_cases hbb : b = (g.mu id).b
    · rw [if_pos hbb] at ho; cases ho; rw [hbb]; exact ⟨hlt, by simp⟩
    · rw [if_neg hbb] at ho
      have := hm.ow b id' ho
      exact ⟨this.1, by simp; omega⟩
  · have hbb : b ≠ (g.mu id).b := fun hbb => by rw [hbb, h1] at ho; cases ho
    exact ⟨by simp only [Gh.addE]; rw [if_neg hbb]; exact ho, hu.other hbb⟩

section
variable {P : Program} {fr : Frm} {H : Mem} {K : AV → Mem → Prop} {dst : Option Nat} {ty : TypeId} {pos : String} {after : Array Edge} {guard : Option (Nat × Bool)}

def aAppendH (P : Program) (t u : TypeId) (b x : AV) (H : Mem) (K : AV → Mem → Prop) : Prop :=
  sliceStr P u = true ∧
  match P.underlying t with
  | some (.slice e) =>
    (match tinf P e with
    | some (sz, by_, some z) => (zeroCs z).length = sz ∧
      (match srcA sz x H with
      | some (n, acs) => acs.all AV.cellish = true ∧
        (match b with
        | .hs id off len _ s => s = sz ∧ (len + n) * by_ ≤ 140737488355328 ∧ len + n ≤ 9223372036854775807 ∧
          (match H[id]? with
          | some (.cells cs) => off + len * sz ≤ cs.length ∧ K (.hs H.length 0 (len + n) (len + n) sz) (H.set id .dead ++ [.cells ((cs.drop off).take (len * sz) ++ acs)])
          | _ => False)
        | _ => False)
      | none => False)
    | _ => False)
  | _ => False

theorem opS_appendH {t u : TypeId} {x y : Operand} (h : aAppendH P t u (aev fr x) (aev fr y) H K) : OpS P ⟨dst, .call ⟨.builtin .append, #[x, y], #[t, u]⟩, ty, pos, after, guard⟩ fr H K := fun g w ev hop hm => by
  have hx := hop x (by simp [Op.operands, Call.operands])
  have hy := hop y (by simp [Op.operands, Call.operands])
  obtain ⟨hu0, h⟩ := h
  obtain ⟨du, hu, hdu⟩ := sliceStr_spec hu0
  have go : ∀ v w1, (Builtin.append_ #[t, u] ty #[ev x, ev y]).run P w = .ok v w1 → (execOp ev ⟨dst, .call ⟨.builtin .append, #[x, y], #[t, u]⟩, ty, pos, after, guard⟩).run P w = .ok (.value v) w1 := fun v w1 hr => by
    rw [execOp_b, b_append]
    simp only [List.map_toArray, List.map_cons, List.map_nil, Sem.run_bind, hr, Result.andThen_ok, Sem.run_pure]
  generalize aev fr x = ax at *
  generalize aev fr y = ay at *
  generalize ev x = vx at *
  generalize ev y = vy at *
  split at h
  · rename_i e ht
    split at h
    · rename_i sz by_ zv hti
      obtain ⟨hzc, h⟩ := h
      split at h
      · rename_i n acs hsrc
        obtain ⟨hce, h⟩ := h
        cases hx with
        | hs id off len mc s cap hid hl hmc hcap =>
          obtain ⟨rfl, hfit, h63, h⟩ := h
          split at h
          · rename_i cs he
            obtain ⟨hle, h⟩ := h
            obtain ⟨olds, o1, o2, o3⟩ := hs_cells hm he hle
            have hown := hm.owned he (.inr (by omega))
            obtain ⟨c, el, frz, hb, hlc, hfr⟩ := hown.2.1
            have hcell := hown.2.2.2.2
            by_cases hroom : len + n ≤ cap
            · obtain ⟨s1, s2, s3⟩ := run_srcA (P := P) hsrc hm hy
              obtain ⟨news, q1, q2, q3⟩ := s3 n (Nat.le_refl _)
              have htk : acs.take (n * s) = acs := List.take_of_length_le (by omega)
              rw [htk] at q3
              have hcz : (g.mu id).o + off + len * s + n * s ≤ (g.mu id).l := by
                have := Nat.mul_le_mul_right s hroom
                rw [Nat.add_mul] at this; omega
              obtain ⟨w1, r1, hupd⟩ := run_storeCells (P := P) el frz ⟨(g.mu id).b, (g.mu id).o + off + len * s, none⟩ rfl news 0 w c hb (fun v hv => oneCells q3 hce v (by simpa using hv)) (by simp only; omega) (fun o a1 a2 => hfr o (by simp only at a2; omega))
              simp only [Nat.add_zero] at hupd
              have hrun := run_room (P := P) (ty := ty) (sLen := len) (sCap := cap) (base := some ⟨(g.mu id).b, (g.mu id).o + off, none⟩) (w1 := w1) ht hu hdu hti s2 hroom q2 (fun a ha => by cases ha; rw [add_plain rfl]; exact r1) (fun e => by cases e)
              rw [go _ _ hrun]
              have hnl : ((cs.drop off).take (len * s)).length = len * s := by simp; omega
              obtain ⟨m1, m2⟩ := hm.regrow (o := off) (acs := (cs.drop off).take (len * s) ++ acs) he (by omega) hb hupd (updA_size _ _ _) (by rw [List.length_append, hnl]; omega) (fun k a ha => by
                rcases Nat.lt_or_ge k (len * s) with hk | hk
                · rw [List.getElem?_append_left (by omega), List.getElem?_take_of_lt hk, List.getElem?_drop] at ha
                  obtain ⟨v, v1, v2⟩ := hcell (off + k) a ha
                  refine ⟨v, ?_, v2⟩
                  rw [updA_lt _ _ _ (by omega)]
                  unfold World.cell? at v1; simp only [hb] at v1; rw [if_neg (by simp), ← Nat.add_assoc] at v1; exact v1
                · rw [List.getElem?_append_right (by omega), hnl] at ha
                  obtain ⟨v, v1, v2⟩ := q3.get ha
                  refine ⟨v, ?_, v2⟩
                  rw [show (g.mu id).o + off + k = (g.mu id).o + off + len * s + (k - len * s) by omega]
                  exact updA_in _ _ _ (by simpa using v1) (by omega))
              refine ⟨_, _, _, h, ?_, m1, m2, by simp⟩
              have := VR.hs (g := g.addE H.length ⟨(g.mu id).b, (g.mu id).o + off, (g.mu id).l⟩) (n := (H.set id Ent.dead ++ [Ent.cells ((cs.drop off).take (len * s) ++ acs)]).length) H.length 0 (len + n) (len + n) s cap (by simp) (Nat.le_refl _) hroom (by simp [Gh.addE]; exact hcap)
              simpa [Gh.addE] using this
            · have hmd : MR g H w.drew := hm.of_heap rfl
              obtain ⟨s1, s2, s3⟩ := run_srcA (P := P) hsrc hmd hy
              obtain ⟨news, q1, q2, q3⟩ := s3 n (Nat.le_refl _)
              have htk : acs.take (n * s) = acs := List.take_of_length_le (by omega)
              rw [htk] at q3
              obtain ⟨cc, w1, cap', p1, p2, p3, p4, p5⟩ := run_grow (P := P) (ty := ty) (x := vy) ht hu hdu hti hzc s2 (by omega) hfit h63 (run_firstCells_some w.drew s len ⟨(g.mu id).b, (g.mu id).o + off, none⟩ len cap olds o1 (fun j v hj => by rw [add_plain rfl, cell_of (w := w) (w' := w.drew) rfl]; exact o2 j v hj)) q2 o1 q1
              rw [go _ _ p1]
              have hl2 : (H.set id Ent.dead).length = H.length := by simp
              have hnl : ((cs.drop off).take (len * s)).length = len * s := by simp; omega
              have := new_hs (P := P) (K := K) (H := H.set id .dead) (cap := cap') (len := len + n) (z := s) (acs := (cs.drop off).take (len * s) ++ acs) (hm.kill id) p2 (fun o _ => by simp) (by rw [List.length_append, hnl, p4]; have := Nat.mul_le_mul_right s p3; rw [Nat.add_mul] at this; omega) (fun i a ha => by
                rw [hl2]
                rcases Nat.lt_or_ge i (len * s) with hk | hk
                · rw [List.getElem?_append_left (by omega)] at ha
                  obtain ⟨v, v1, v2⟩ := o3.get ha
                  refine ⟨v, ?_, v2⟩
                  rw [p5 i (by rw [List.length_append]; omega), List.getElem?_append_left (by omega)]
                  simpa using v1
                · rw [List.getElem?_append_right (by omega), hnl] at ha
                  have hlt := lt_of_get ha
                  obtain ⟨v, v1, v2⟩ := q3.get ha
                  refine ⟨v, ?_, v2⟩
                  rw [p5 i (by rw [List.length_append]; omega), List.getElem?_append_right (by omega), o1]
                  simpa using v1) p3 (by rw [p4]; exact Nat.le_refl _) (by rw [hl2]; exact h)
              rw [hl2] at this
              exact this
          · exact h.elim
        | hn id off s a hid =>
          obtain ⟨rfl, hfit, h63, h⟩ := h
          split at h
          · rename_i cs he
            obtain ⟨hle, h⟩ := h
            simp only [Nat.zero_mul, List.take_zero, List.nil_append, Nat.zero_add] at h
            have hl2 : (H.set id Ent.dead).length = H.length := by simp
            by_cases hn0 : n = 0
            · subst hn0
              obtain ⟨s1, s2, s3⟩ := run_srcA (P := P) hsrc hm hy
              obtain ⟨news, q1, q2, q3⟩ := s3 0 (Nat.le_refl _)
              have hnews : news = [] := List.eq_nil_of_length_eq_zero (by rw [q1]; simp)
              have hacs : acs = [] := List.eq_nil_of_length_eq_zero (by rw [s1]; simp)
              subst hnews hacs
              have hrun := run_room (P := P) (ty := ty) (sLen := 0) (sCap := 0) (base := a) (w1 := w) ht hu hdu hti s2 (by omega) q2 (fun a ha => rfl) (fun e => rfl)
              rw [go _ _ hrun]
              obtain ⟨m1, m2⟩ := (hm.kill id).push_none
              rw [hl2] at m1 m2
              exact ⟨_, _, _, h, .hn _ 0 s a (by simp), m1, m2, by simp⟩
            · have hmd : MR g H w.drew := hm.of_heap rfl
              obtain ⟨s1, s2, s3⟩ := run_srcA (P := P) hsrc hmd hy
              obtain ⟨news, q1, q2, q3⟩ := s3 n (Nat.le_refl _)
              have htk : acs.take (n * s) = acs := List.take_of_length_le (by omega)
              rw [htk] at q3
              obtain ⟨cc, w1, cap', p1, p2, p3, p4, p5⟩ := run_grow (P := P) (ty := ty) (x := vy) (base := a) (sLen := 0) (sCap := 0) (olds := []) ht hu hdu hti hzc s2 (by omega) hfit h63 (by
                cases a with
                | none => exact run_firstCells_none _ _ _ _ _
                | some a => exact run_firstCells_some w.drew s 0 a 0 0 [] (by simp) fun j v hj => by simp at hj) q2 (by simp) q1
              rw [go _ _ p1]
              have := new_hs (P := P) (K := K) (H := H.set id .dead) (cap := cap') (len := 0 + n) (z := s) (acs := acs) (hm.kill id) p2 (fun o _ => by simp) (by rw [p4]; have := Nat.mul_le_mul_right s p3; rw [Nat.zero_add] at this; omega) (fun i a ha => by
                rw [hl2]
                have hlt := lt_of_get ha
                obtain ⟨v, v1, v2⟩ := q3.get ha
                refine ⟨v, ?_, v2⟩
                rw [p5 i (by simp; omega)]
                simpa using v1) p3 (by rw [p4]; exact Nat.le_refl _) (by rw [hl2]; simpa using h)
              rw [hl2] at this
              exact this
          · exact h.elim
        | _ => exact h.elim
      · exact h.elim
    · exact h.elim
  · exact h.elim

end
end Go.Proofs.Yteclchefihcjkaa.Am
