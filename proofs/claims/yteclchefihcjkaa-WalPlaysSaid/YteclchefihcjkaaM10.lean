/- Operations: the bytes of a text, copy, clear. -/
import Derived.Test.YteclchefihcjkaaM9
namespace Go.Proofs.Yteclchefihcjkaa.Am
open Go

section
variable {P : Program} {fr : Frm} {H : Mem} {K : AV → Mem → Prop} {dst : Option Nat} {ty : TypeId} {pos : String} {after : Array Edge} {guard : Option (Nat × Bool)}

theorem push_bytes (w : World) (e : TypeId) (s : ByteArray) : Push w (Lib.bytesWorld w e s) (Lib.bytesCells w e s) e ((Lib.bytesCells w e s).size, (Lib.bytesCells w e s).size + 1) := by
  refine ⟨?_, rfl, rfl, rfl⟩
  apply Array.ext'
  apply List.ext_getElem?
  intro j
  simp only [Array.getElem?_toList]
  rw [Array.getElem?_push]
  rcases Nat.lt_trichotomy j w.heap.size with h | h | h
  · rw [if_neg (by omega)]; exact Lib.bytesWorld_at_old w e s j h
  · subst h; rw [if_pos rfl]; exact Lib.bytesWorld_at_new w e s
  · rw [if_neg (by omega), Array.getElem?_eq_none (by rw [Lib.bytesWorld_size]; omega), Array.getElem?_eq_none (by omega)]

/-- The ghost in which the cells of an entry never change any more. -/
def Gh.fz (g : Gh) (w : World) (id n : Nat) : Gh := { g with ro := fun b o => if b = (g.mu id).b ∧ (g.mu id).o ≤ o ∧ o < (g.mu id).o + n then w.cell? ⟨b, o, none⟩ else g.ro b o }

/-- Cells of one's own are one's own no more: they never change. -/
theorem MR.freeze {g : Gh} {H : Mem} {w : World} {id : Nat} {cs : List AV} (hm : MR g H w) (hid : H[id]? = some (.cells cs)) :
    MR (g.fz w id cs.length) (H.set id .dead) w ∧ Gle H.length g (g.fz w id cs.length) := by
  by_cases hne : cs = []
  · subst hne
    have e : g.fz w id 0 = g := by
      obtain ⟨ro, ow, mu⟩ := g
      simp only [Gh.fz, Gh.mk.injEq, and_self, and_true]
      funext b o
      rw [if_neg (by omega)]
    simp only [List.length_nil, e]
    exact ⟨hm.kill id, .refl _ _⟩
  obtain ⟨h1, h2, h3, h4, h5⟩ := hm.owned hid (.inl hne)
  have hgle : Gle H.length g (g.fz w id cs.length) := ⟨fun b o v h => by
    simp only [Gh.fz]
    by_cases hx : b = (g.mu id).b ∧ (g.mu id).o ≤ o ∧ o < (g.mu id).o + cs.length
    · obtain ⟨rfl, _⟩ := hx; rw [h4] at h; cases h
    · rw [if_neg hx]; exact h, fun _ _ => rfl⟩
  refine ⟨⟨fun b o v h => ?_, fun id' e he => ?_, fun b id' ho => ?_⟩, hgle⟩
  · simp only [Gh.fz] at h
    by_cases hx : b = (g.mu id).b ∧ (g.mu id).o ≤ o ∧ o < (g.mu id).o + cs.length
    · rw [if_pos hx] at h; exact h
    · rw [if_neg hx] at h; exact hm.ro b o v h
  · rcases get_set he with ⟨hne, he⟩ | ⟨rfl, rfl, _⟩
    · have hid' := lt_of_get he
      have hE := hm.ent id' e he
      rcases hE.own hid' with hfr' | hown
      · exact (hfr' _ _ _ hgle)
      · refine hE.keep hid' hgle (by simp) fun b hown => ⟨hown, fun o => ?_, rfl⟩
        simp only [Gh.fz]
        rw [if_neg]
        rintro ⟨hb, _⟩
        rw [hb, h1] at hown; cases hown; exact hne rfl
    · trivial
  · have := hm.ow b id' ho
    exact ⟨this.1, by simpa using this.2⟩

/-- Such cells, as a slice. -/
theorem freeze_row {g : Gh} {H : Mem} {w : World} {id : Nat} {cs : List AV} {pcs : List PV} {off len s cap : Nat} (hm : MR g H w) (hid : H[id]? = some (.cells cs)) (hp : cs.mapM AV.pv = some pcs)
    (hl : off + len * s ≤ cs.length) (hlc : len ≤ cap) {n : Nat} : VR (g.fz w id cs.length) n (.sl s (chunk s len ((pcs.drop off).take (len * s))) .no) (.slice (some ⟨(g.mu id).b, (g.mu id).o + off, none⟩) len cap) := by
  have h5 := hm.cellAt hid
  obtain ⟨hm1, hgle⟩ := hm.freeze hid
  have hcell : ∀ j, j < cs.length → ∃ v, w.cell? ⟨(g.mu id).b, (g.mu id).o + j, none⟩ = some v ∧ VR g H.length (cs.getD j .any) v := fun j hj => by
    obtain ⟨v, a1, a2⟩ := h5 j cs[j] (List.getElem?_eq_getElem hj)
    exact ⟨v, a1, by simpa [List.getD, List.getElem?_eq_getElem hj] using a2⟩
  let f : Nat → Value := fun j => (w.cell? ⟨(g.mu id).b, (g.mu id).o + j, none⟩).getD undef
  have hf : ∀ j, j < cs.length → w.cell? ⟨(g.mu id).b, (g.mu id).o + j, none⟩ = some (f j) ∧ VR g H.length (cs.getD j .any) (f j) := fun j hj => by
    obtain ⟨v, a1, a2⟩ := hcell j hj
    simp only [f, a1, Option.getD_some]; exact ⟨trivial, a2⟩
  have hvs : VRs g H.length cs ((List.range cs.length).map f).toArray := ⟨by simp, fun i a ha => by
    have hlt := lt_of_get ha
    have := (hf i hlt).2
    rw [List.getD_eq_getElem?_getD, ha] at this
    simpa [Array.getD_eq_getD_getElem?, hlt] using this⟩
  obtain ⟨hpl, hpr⟩ := mapM_pv hp hvs
  have hlen : ((pcs.drop off).take (len * s)).length = len * s := by simp; omega
  have hcl := chunk_length s len ((pcs.drop off).take (len * s))
  have := VR.sl (g := g.fz w id cs.length) (n := n) s (chunk s len ((pcs.drop off).take (len * s))) .no ⟨(g.mu id).b, (g.mu id).o + off, none⟩ cap (fun k => f (off + k)) (.inr rfl) (by omega) (chunk_mem s len _ hlen) (by
    rw [chunk_flatten s len _ hlen]
    intro k p hk
    have hlt := lt_of_get hk
    rw [hlen] at hlt
    rw [List.getElem?_take_of_lt hlt, List.getElem?_drop] at hk
    obtain ⟨v, r1, r2⟩ := hpr _ p hk
    have hj : off + k < cs.length := by omega
    have hv : v = f (off + k) := by simp [hj] at r1; exact r1.symm
    subst hv
    refine ⟨?_, r2.mono hgle.ro⟩
    simp only [Gh.fz]
    have hcond : (g.mu id).b = (g.mu id).b ∧ (g.mu id).o ≤ (g.mu id).o + off + k ∧ (g.mu id).o + off + k < (g.mu id).o + cs.length := ⟨rfl, by omega, by omega⟩
    rw [if_pos ⟨trivial, hcond.2⟩, Nat.add_assoc]
    exact (hf _ hj).1) trivial
  rw [hcl] at this
  exact this

/-- A mark on a block of one's own. -/
theorem MR.mark {g : Gh} {H : Mem} {w w1 : World} {id b : Nat} {c : Array Value} {e : TypeId} {fr fr' : Nat × Nat} (hm : MR g H w) (hid : H[id]? = some .dead) (hob : g.ow b = some id)
    (hb : w.heap[b]? = some (.cells c e fr)) (hu : Upd w w1 b (.cells c e fr')) : MR g H w1 ∧ Ev H.length g w g w1 := by
  have hlt := (hm.ow _ _ hob).1
  have hcell : ∀ a : Addr, w1.cell? a = w.cell? a := fun a => by
    by_cases hx : a.block = b
    · unfold World.cell?; rw [hx, hu.same hlt, hb]
    · exact hu.cell_other hx
  refine ⟨⟨fun b o v h => (hcell _).trans (hm.ro b o v h), fun id' x hx => ?_, fun b id' ho => by rw [hu.size]; exact hm.ow b id' ho⟩, ⟨.refl _ _, fun b' hb' ho => ⟨ho, hu.other fun hbb => ?_⟩, by rw [hu.size]; omega, hu.os, hu.tape, hu.output⟩⟩
  · have hid' := lt_of_get hx
    have hE := hm.ent id' x hx
    rcases hE.own hid' with hfr' | hown
    · exact hfr' _ _ _ (.refl _ _)
    · by_cases hbi : id' = id
      · subst hbi
        rw [hid] at hx; cases hx; trivial
      · exact hE.keep hid' (.refl _ _) (Nat.le_refl _) fun b' hown => ⟨hown, fun _ => rfl, hu.other fun hbb => by rw [hbb, hob] at hown; cases hown; exact hbi rfl⟩
  · rw [hbb, hob] at ho; cases ho

theorem upd_freeze {w : World} {a : Addr} {n : Nat} {c : Array Value} {e : TypeId} {fr : Nat × Nat} (hb : w.heap[a.block]? = some (.cells c e fr)) (hn : n ≠ 0) :
    ∃ fr', Upd w (w.freeze a n) a.block (.cells c e fr') := by
  refine ⟨if fr.1 == fr.2 then (a.off, a.off + n) else (min fr.1 a.off, max fr.2 (a.off + n)), ?_, ?_, ?_, ?_⟩
  · unfold World.freeze
    rw [if_neg hn]
    apply Array.ext_getElem?
    intro i
    simp only [Array.getElem?_modify]
    by_cases h : a.block = i
    · subst h
      have hlt := alt_of_get hb
      rw [Array.getElem?_setIfInBounds_self_of_lt hlt]
      simp only [if_true, hb, Option.map_some]
    · rw [Array.getElem?_setIfInBounds_ne h, if_neg h]
  all_goals (unfold World.freeze; rw [if_neg hn])

/-- m: 0: nothing is known of what lies behind the bytes; 1: spare room; 2: cells of one's own. -/
def aBytes (P : Program) (m : Nat) (src dst : TypeId) (x : AV) (H : Mem) (K : AV → Mem → Prop) : Prop :=
  match P.underlying src, P.underlying dst with
  | some .string, some (.slice e) =>
    (match P.underlying e with
    | some (.int .u8) =>
      (match x with
      | .sc (.string s) => aFresh m 1 (s.data.toList.map encB) H K
      | _ => False)
    | _ => False)
  | some (.slice _), some (.slice e) => src = dst ∧
    (match P.underlying e with
    | some (.int .u8) =>
      (match x with
      | .hs id off len _ s => s = 1 ∧ len ≠ 0 ∧ (match H[id]? with
        | some (.cells cs) => off + len * 1 ≤ cs.length ∧ (match cs.mapM AV.pv with
          | some pcs => K (.sl 1 (chunk 1 len ((pcs.drop off).take (len * 1))) .no) (H.set id .dead)
          | none => False)
        | _ => False)
      | _ => False)
    | _ => False)
  | _, _ => False

theorem opS_bytes {s d : TypeId} {x : Operand} (m : Nat) (h : aBytes P m s d (aev fr x) H K) : OpS P ⟨dst, .convert s d x, ty, pos, after, guard⟩ fr H K := fun g w ev hop hm => by
  have hx := hop x (by simp [Op.operands])
  unfold aBytes at h
  split at h
  · rename_i e hs hd
    split at h
    · rename_i he
      split at h
      · rename_i st heq
        rw [heq] at hx
        have hr := Lib.run_convert_string_bytes (P := P) w s d e st hs hd he
        have : (execOp ev ⟨dst, .convert s d x, ty, pos, after, guard⟩).run P w = .ok (.value (.slice (some ⟨w.heap.size, 0, none⟩) st.size (grownCap w st.size 0 e))) (Lib.bytesWorld w e st) := by
          simp only [execOp, Sem.run_bind, VR_sc hx, hr, Result.andThen_ok, Sem.run_pure]
        rw [this]
        have hp := push_bytes w e st
        have hcap : st.size ≤ grownCap w st.size 0 e := by unfold grownCap Question.cut; exact Nat.le_add_right _ _
        have hcs : (Lib.bytesCells w e st).size = grownCap w st.size 0 e := by
          unfold Lib.bytesCells
          simp
          show st.size + _ = _
          omega
        have hlen : (st.data.toList.map encB).length = st.size := by simp
        have hv : ∀ (k : Nat) p, (st.data.toList.map encB).flatten[k]? = some p → ∃ v, (Lib.bytesCells w e st)[k]? = some v ∧ PR g.ro p v := fun k p hk => by
          obtain ⟨b, h1, h2, h3⟩ := byteRow (ro := g.ro) _ k p hk
          refine ⟨_, ?_, h3⟩
          unfold Lib.bytesCells
          rw [Array.getElem?_toList] at h1
          rw [Array.getElem?_append_left (by simp; exact alt_of_get h1), Array.getElem?_map, h1]
          rfl
        have hfr : ∀ o, o < (Lib.bytesCells w e st).size → (decide ((Lib.bytesCells w e st).size ≤ o) && decide (o < (Lib.bytesCells w e st).size + 1)) = false := fun o ho => by simp; omega
        rw [← hlen]
        unfold aFresh at h
        split at h
        · exact new_row hm hp (encB_length _) hv (by rw [hlen]; exact hcap) (.inl rfl) h
        · exact new_tok hm hp hfr (encB_length _) hv (by rw [hlen]; exact hcap) (by rw [hcs, hlen, Nat.mul_one]) h
        · refine new_hs hm hp hfr ?_ (fun i a ha => ?_) (by rw [hlen]; exact hcap) (by rw [hcs, hlen, Nat.mul_one]; exact Nat.le_refl _) h
          · rw [List.length_map, flatten_length (encB_length _), hlen, hcs]; omega
          · rw [List.getElem?_map] at ha
            cases hq : (st.data.toList.map encB).flatten[i]? with
            | none => rw [hq] at ha; cases ha
            | some p =>
              rw [hq] at ha
              simp only [Option.map_some, Option.some.injEq] at ha
              subst ha
              obtain ⟨v, h1, h2⟩ := hv i p hq
              exact ⟨v, h1, VR.of_PR h2⟩
      · exact h.elim
    · exact h.elim
  · rename_i e0 e hs hd
    obtain ⟨rfl, h⟩ := h
    cases hs.symm.trans hd
    split at h
    · rename_i he
      split at h
      · rename_i id off len mc z1 heq
        rw [heq] at hx
        obtain ⟨rfl, hl0, h⟩ := h
        split at h
        · rename_i cs hid
          obtain ⟨hl, h⟩ := h
          split at h
          · rename_i pcs hp
            cases hvx : ev x with
            | slice a n c =>
              rw [hvx] at hx
              cases hx with
              | hs _ _ _ _ _ cap hidl hll hmc hcap =>
                have hE := hm.owned hid (.inl fun e => by rw [e] at hl; simp at hl; omega)
                obtain ⟨cc, el, frz, hblk, _, _⟩ := hE.2.1
                obtain ⟨fr', hu⟩ := upd_freeze (a := ⟨(g.mu id).b, cc.size, none⟩) (n := 1) hblk (by omega)
                obtain ⟨hm1, hg1⟩ := hm.freeze hid
                have hlt := lt_of_get hid
                obtain ⟨hm2, he2⟩ := hm1.mark (id := id) (b := (g.mu id).b) (by simp [hlt]) hE.1 hblk hu
                have hsh : w.shape? (g.mu id).b = some (el, cc.size) := by unfold World.shape?; rw [hblk]
                have : (execOp ev ⟨dst, .convert s s x, ty, pos, after, guard⟩).run P w = .ok (.value (.slice (some ⟨(g.mu id).b, (g.mu id).o + off, none⟩) len c)) (w.freeze ⟨(g.mu id).b, cc.size, none⟩ 1) := by
                  simp [execOp, hvx, convert, run_underlying hs, run_underlying he, markStringish, hsh]
                rw [this]
                have hv := freeze_row (n := (H.set id Ent.dead).length) hm hid hp hl (Nat.le_trans hll hmc)
                refine ⟨_, _, _, h, hv, hm2, ⟨⟨hg1.ro, hg1.mu⟩, fun b hb ho => ?_, he2.size, he2.os, he2.tape, he2.output⟩, by simp⟩
                exact he2.un b hb ho
              | hn => exact absurd rfl hl0
            | _ => rw [hvx] at hx; cases hx
          · exact h.elim
        · exact h.elim
      · exact h.elim
    · exact h.elim
  · exact h.elim


/-! ### copy, clear -/

/-- The cells of what is copied, and how many elements these are. -/
def srcA (z : Nat) (x : AV) (H : Mem) : Option (Nat × List AV) :=
  match x with
  | .sl z' es _ => if z' = z then some (es.length, es.flatten.map PV.av) else none
  | .sc (.slice none 0 0) => some (0, [])
  | .sc (.string s) => if z = 1 then some (s.size, s.data.toList.map fun b => .sc (.int .u8 b.toNat)) else none
  | .hs id off len _ s => if s = z then (match H[id]? with | some (.cells cs) => if off + len * z ≤ cs.length then some (len, (cs.drop off).take (len * z)) else none | _ => none) else none
  | _ => none

theorem run_srcA {z n : Nat} {x : AV} {acs : List AV} (hs : srcA z x H = some (n, acs)) {g : Gh} {w : World} {v : Value} (hm : MR g H w) (hv : VR g H.length x v) :
    acs.length = n * z ∧ (∀ w', (Builtin.lenOf v).run P w' = .ok n w') ∧ ∀ k, k ≤ n → ∃ news : List Value, news.length = k * z ∧ (Builtin.firstCells z k v).run P w = .ok news.toArray w ∧ VRs g H.length (acs.take (k * z)) news.toArray := by
  unfold srcA at hs
  cases hv with
  | nil z' =>
    simp only at hs
    split at hs
    · cases hs
      refine ⟨by simp, fun _ => rfl, fun k hk => ⟨[], ?_, run_firstCells_none w _ _ _ _, ?_⟩⟩
      · simp at hk; subst hk; simp
      · simp; exact ⟨rfl, fun i a h => by simp at h⟩
    · cases hs
  | sl z' es' kk a cap f hsp hcap hz hrow hk =>
    simp only at hs
    split at hs
    · rename_i hzz
      subst hzz
      cases hs
      have hfl := flatten_length hz
      refine ⟨by rw [List.length_map]; exact hfl, fun _ => rfl, fun k hk => ⟨(List.range (k * z')).map f, by simp, ?_, ?_⟩⟩
      · have hkz : k * z' ≤ es'.length * z' := Nat.mul_le_mul_right _ hk
        refine run_firstCells_some w z' k a es'.length cap _ (by simp) fun j v hj => ?_
        have hlt := lt_of_get hj
        simp at hlt
        rw [List.getElem?_map, List.getElem?_range hlt] at hj
        simp only [Option.map_some, Option.some.injEq] at hj
        subst hj
        rw [add_plain (hsp.resolve_left (fun h0 => by subst h0; simp_all))]
        exact hm.ro _ _ _ (hrow j (es'.flatten[j]'(by omega)) (List.getElem?_eq_getElem (by omega))).1
      · have hkz : k * z' ≤ es'.length * z' := Nat.mul_le_mul_right _ hk
        refine ⟨by rw [List.length_take, List.length_map, hfl, Nat.min_eq_left hkz]; simp, fun i c hc => ?_⟩
        have hi : i < k * z' := by have := lt_of_get hc; simp at this; omega
        rw [List.getElem?_take_of_lt hi, List.getElem?_map, List.getElem?_eq_getElem (show i < es'.flatten.length by omega)] at hc
        simp only [Option.map_some, Option.some.injEq] at hc
        subst hc
        have := VR.of_PR (n := H.length) (hrow i _ (List.getElem?_eq_getElem (show i < es'.flatten.length by omega))).2
        simpa [Array.getD_eq_getD_getElem?, hi] using this
    · cases hs
  | sc =>
    split at hs
    · rename_i e; cases e
    · rename_i e
      cases e
      cases hs
      refine ⟨by simp, fun _ => rfl, fun k hk => ⟨[], ?_, run_firstCells_none w _ _ _ _, ?_⟩⟩
      · simp at hk; subst hk; simp
      · simp; exact ⟨rfl, fun i a h => by simp at h⟩
    · rename_i s e
      cases e
      split at hs
      · rename_i hz1
        subst hz1
        cases hs
        have hsz : s.data.toList.length = s.size := by simp
        refine ⟨by simp, by simp [Builtin.lenOf], fun k hk => ⟨(s.data.toList.take k).map fun b => Value.int .u8 b.toNat, by simp; omega, ?_, ?_⟩⟩
        · simp only [Builtin.firstCells, Sem.run_pure]
          congr 1
          apply Array.ext'
          simp
        · refine ⟨by simp, fun i c hc => ?_⟩
          have hi : i < k := by have := lt_of_get hc; simp at this; omega
          rw [List.getElem?_take_of_lt (by omega), List.getElem?_map] at hc
          cases hb : s.data.toList[i]? with
          | none => rw [hb] at hc; cases hc
          | some b =>
            rw [hb] at hc
            simp only [Option.map_some, Option.some.injEq] at hc
            subst hc
            have : ((s.data.toList.take k).map fun b : UInt8 => Value.int .u8 b.toNat)[i]? = some (.int .u8 b.toNat) := by
              rw [List.getElem?_map, List.getElem?_take_of_lt hi, hb]; rfl
            rw [Array.getD_eq_getD_getElem?, List.getElem?_toArray, this]
            exact .sc _
      · cases hs
    · rename_i e; cases e
    · cases hs
  | hs id off len mc s cap hid hl hmc hcap =>
    simp only at hs
    split at hs
    · rename_i hzz
      subst hzz
      split at hs
      · rename_i cs he
        split at hs
        · rename_i hle
          cases hs
          refine ⟨by simp; omega, fun _ => rfl, fun k hk => ?_⟩
          have hkz : k * s ≤ n * s := Nat.mul_le_mul_right _ hk
          obtain ⟨news, h1, h2, h3⟩ := hs_cells (off := off) (n := k * s) hm he (by omega)
          refine ⟨news, h1, ?_, ?_⟩
          · refine run_firstCells_some w s k ⟨(g.mu id).b, (g.mu id).o + off, none⟩ n cap _ h1 fun j v hj => ?_
            rw [add_plain rfl]
            exact h2 j v hj
          · rw [List.take_take, Nat.min_eq_left hkz]
            exact h3
        · cases hs
      · cases hs
    · cases hs
  | hn id off s a hid =>
    have e : n = 0 ∧ acs = [] := by
      simp only at hs
      split at hs
      · split at hs
        · split at hs
          · simp only [Nat.zero_mul, List.take_zero] at hs
            cases hs; exact ⟨rfl, rfl⟩
          · cases hs
        · cases hs
      · cases hs
    obtain ⟨rfl, rfl⟩ := e
    refine ⟨by simp, fun _ => rfl, fun k hk => ⟨[], ?_, ?_, ?_⟩⟩
    · simp at hk; subst hk; simp
    · simp at hk; subst hk
      cases a with
      | none => exact run_firstCells_none w _ _ _ _
      | some a => exact run_firstCells_some w z 0 a 0 0 [] (by simp) fun j v hj => by simp at hj
    · simp; exact ⟨rfl, fun i a h => by simp at h⟩
  | _ => cases hs

/-- Writing cells through a slice of one's own. -/
theorem put_hs {g : Gh} {w : World} (hm : MR g H w) {id : Nat} {cs vs : List AV} {ws : List Value} {k : Nat} (he : H[id]? = some (.cells cs)) (hv : VRs g H.length vs ws.toArray) (hc : vs.all AV.cellish = true) (hk : k + vs.length ≤ cs.length) :
    ∃ w1, (storeCells ⟨(g.mu id).b, (g.mu id).o + k, none⟩ ws).run P w = .ok () w1 ∧ MR g (H.set id (.cells (setAt cs k vs))) w1 ∧ Ev H.length g w g w1 := by
  have hlen : ws.length = vs.length := by have := hv.1; simpa using this
  by_cases hne : cs = []
  · subst hne
    have : vs = [] := List.length_eq_zero_iff.1 (by simp only [List.length_nil] at hk; omega)
    subst this
    have : ws = [] := List.length_eq_zero_iff.1 (by simpa using hlen)
    subst this
    exact ⟨w, rfl, by simp only [setAt]; rw [mem_same he]; exact hm, .refl _ _ _⟩
  obtain ⟨h1, h2, h3, h4, h5⟩ := hm.owned he (.inl hne)
  obtain ⟨c, el, frz, hb, hl, hfr⟩ := h2
  obtain ⟨w1, hr, hu⟩ := run_storeCells (P := P) el frz ⟨(g.mu id).b, (g.mu id).o + k, none⟩ rfl ws 0 w c hb (fun v hv' => oneCells hv hc v (by simpa using hv')) (by simp only; omega) (fun o a1 a2 => hfr o (by simp only at a2; omega))
  obtain ⟨m1, m2⟩ := hm.put (cs' := setAt cs k vs) he hne hb hu (updA_size _ _ _) (setAt_length _ _ _) (by
    simp only [Nat.add_zero]
    exact setAt_rel (m := (g.mu id).o) (fun i a ha => by
      obtain ⟨v, q1, q2⟩ := h5 i a ha
      refine ⟨v, ?_, q2⟩
      unfold World.cell? at q1; simp only [hb] at q1; rw [if_neg (by simp)] at q1; exact q1) hv hk (by omega))
  exact ⟨w1, hr, m1, m2⟩

def aCopy (P : Program) (t : TypeId) (d x : AV) (H : Mem) (K : AV → Mem → Prop) : Prop :=
  match P.underlying t with
  | some (.slice e) =>
    (match tinf P e with
    | some (sz, _, _) =>
      (match srcA sz x H with
      | some (n, acs) =>
        (match d with
        | .hs id off len _ s => s = sz ∧
          (match H[id]? with
          | some (.cells cs) => (acs.take (min n len * sz)).all AV.cellish = true ∧ off + min n len * sz ≤ cs.length ∧
              K (.sc (.int .i64 (min n len : Nat))) (H.set id (.cells (setAt cs off (acs.take (min n len * sz)))))
          | _ => False)
        | .sl _ [] _ => K (.sc (.int .i64 0)) H
        | .sc (.slice none 0 0) => K (.sc (.int .i64 0)) H
        | _ => False)
      | none => False)
    | none => False)
  | _ => False

theorem opS_copy {t u : TypeId} {x y : Operand} (h : aCopy P t (aev fr x) (aev fr y) H K) : OpS P ⟨dst, .call ⟨.builtin .copy, #[x, y], #[t, u]⟩, ty, pos, after, guard⟩ fr H K := fun g w ev hop hm => by
  have hx := hop x (by simp [Op.operands, Call.operands])
  have hy := hop y (by simp [Op.operands, Call.operands])
  have go : ∀ v w1, (Builtin.copy_ #[t, u] ty #[ev x, ev y]).run P w = .ok v w1 → (execOp ev ⟨dst, .call ⟨.builtin .copy, #[x, y], #[t, u]⟩, ty, pos, after, guard⟩).run P w = .ok (.value v) w1 := fun v w1 hr => by
    rw [execOp_b, b_copy]
    simp only [List.map_toArray, List.map_cons, List.map_nil, Sem.run_bind, hr, Result.andThen_ok, Sem.run_pure]
  generalize aev fr x = ax at *
  generalize aev fr y = ay at *
  generalize ev x = vx at *
  generalize ev y = vy at *
  unfold aCopy at h
  split at h
  · rename_i e ht
    cases hti : tinf P e with
    | none => rw [hti] at h; exact h.elim
    | some q =>
      obtain ⟨sz, by_, zv⟩ := q
      rw [hti] at h
      simp only at h
      split at h
      · rename_i n acs hsrc
        obtain ⟨s1, s2, s3⟩ := run_srcA (P := P) hsrc hm hy
        have run : ∀ (base : Option Addr) (len cap : Nat) (w1 : World) (news : List Value), (Builtin.firstCells sz (min n len) vy).run P w = .ok news.toArray w → (∀ a, base = some a → (storeCells a news).run P w = .ok () w1) → (base = none → w1 = w) →
            (Builtin.copy_ #[t, u] ty #[.slice base len cap, vy]).run P w = .ok (.int .i64 (min n len : Nat)) w1 := fun base len cap w1 news c1 c2 c3 => by
          cases base with
          | none =>
            have e := c3 rfl
            subst e
            simp only [Builtin.copy_, List.getElem?_toArray, List.getElem?_cons_zero, List.getElem?_cons_succ, Sem.run_bind, run_underlying ht, Result.andThen_ok, s2, run_sizeOf hti]
            rw [show Nat.min n len = min n len from rfl, c1]
            simp [goInt]
          | some a =>
            simp only [Builtin.copy_, List.getElem?_toArray, List.getElem?_cons_zero, List.getElem?_cons_succ, Sem.run_bind, run_underlying ht, Result.andThen_ok, s2, run_sizeOf hti]
            rw [show Nat.min n len = min n len from rfl, c1]
            simp [goInt, c2 a rfl]
        cases hx with
        | hs id off len mc s cap hid hl hmc hcap =>
          simp only at h
          obtain ⟨rfl, h⟩ := h
          split at h
          · rename_i cs he
            obtain ⟨hc, hle, h⟩ := h
            obtain ⟨news, q1, q2, q3⟩ := s3 (min n len) (Nat.min_le_left _ _)
            have hlen : (acs.take (min n len * s)).length = min n len * s := by
              have : min n len * s ≤ n * s := Nat.mul_le_mul_right _ (Nat.min_le_left _ _)
              simp; omega
            obtain ⟨w1, r1, r2, r3⟩ := put_hs (P := P) (k := off) hm he q3 hc (by rw [hlen]; exact hle)
            rw [go _ _ (run _ len cap w1 news q2 (fun a ha => by cases ha; exact r1) (fun e => by cases e))]
            exact ⟨_, _, g, h, .sc _, r2, r3, by simp⟩
          · exact h.elim
        | hn id off s a hid =>
          simp only at h
          obtain ⟨rfl, h⟩ := h
          split at h
          · rename_i cs he
            obtain ⟨hc, hle, h⟩ := h
            obtain ⟨news, q1, q2, q3⟩ := s3 (min n 0) (Nat.min_le_left _ _)
            have hn0 : news = [] := by rw [Nat.min_zero, Nat.zero_mul] at q1; exact List.eq_nil_of_length_eq_zero q1
            subst hn0
            rw [go _ _ (run a 0 0 w [] q2 (fun a ha => rfl) (fun e => rfl))]
            simp only [Nat.min_zero, Nat.zero_mul, List.take_zero, setAt, mem_same he] at h
            exact sr_here hm (by rw [Nat.min_zero]; exact .sc _) h
          · exact h.elim
        | nil z =>
          obtain ⟨news, q1, q2, q3⟩ := s3 (min n 0) (Nat.min_le_left _ _)
          rw [go _ _ (run none 0 0 w news q2 (fun a ha => by cases ha) (fun _ => rfl))]
          exact sr_here hm (by rw [Nat.min_zero]; exact .sc _) h
        | sl z es k a cap f hsp hcap hz hrow hk =>
          cases es with
          | nil =>
            obtain ⟨news, q1, q2, q3⟩ := s3 (min n 0) (Nat.min_le_left _ _)
            have hn0 : news = [] := by rw [Nat.min_zero, Nat.zero_mul] at q1; exact List.eq_nil_of_length_eq_zero q1
            subst hn0
            rw [go _ _ (run (some a) 0 cap w [] q2 (fun a ha => rfl) (fun e => by cases e))]
            exact sr_here hm (by rw [Nat.min_zero]; exact .sc _) h
          | cons e es => exact h.elim
        | sc =>
          split at h
          · rename_i e; cases e
          · rename_i e; cases e
          · rename_i e; cases e
            obtain ⟨news, q1, q2, q3⟩ := s3 (min n 0) (Nat.min_le_left _ _)
            rw [go _ _ (run none 0 0 w news q2 (fun a ha => by cases ha) (fun _ => rfl))]
            exact sr_here hm (by rw [Nat.min_zero]; exact .sc _) h
          · exact h.elim
        | _ => exact h.elim
      · exact h.elim
  · exact h.elim

end
end Go.Proofs.Yteclchefihcjkaa.Am
