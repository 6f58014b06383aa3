/- Operations that make rows: literals, make, append, copy, the bytes of a text. -/
import Derived.Test.YteclchefihcjkaaM6
import Derived.Lib.ConvBytes
namespace Go.Proofs.Yteclchefihcjkaa.Am
open Go

def AV.pv : AV → Option PV
  | .sc v => if v.oneCell' then some (.sc v) else none
  | .sl z es _ => some (.sl z es)
  | _ => none

theorem PR.of_pv {g : Gh} {n : Nat} {a : AV} {p : PV} {v : Value} (h : VR g n a v) (hp : a.pv = some p) : PR g.ro p v := by
  cases h with
  | sc v =>
    simp only [AV.pv] at hp
    split at hp
    · rename_i h1; cases hp; exact .sc _ h1
    · cases hp
  | nil z => cases hp; exact .nil z
  | sl z es k a cap f hsp hcap hz hrow hk => cases hp; exact PR.of_VR (.sl z es k a cap f hsp hcap hz hrow hk)
  | _ => cases hp

def chunk {α : Type} (z : Nat) : Nat → List α → List (List α)
  | 0, _ => []
  | n + 1, l => l.take z :: chunk z n (l.drop z)

theorem chunk_length {α : Type} (z n : Nat) (l : List α) : (chunk z n l).length = n := by
  induction n generalizing l with
  | zero => rfl
  | succ n ih => simp [chunk, ih]

theorem chunk_mem {α : Type} (z n : Nat) (l : List α) (h : l.length = n * z) : ∀ e, e ∈ chunk z n l → e.length = z := by
  induction n generalizing l with
  | zero => intro e he; cases he
  | succ n ih =>
    intro e he
    rw [Nat.succ_mul] at h
    simp only [chunk, List.mem_cons] at he
    rcases he with rfl | he
    · simp; omega
    · exact ih (l.drop z) (by simp; omega) e he

theorem chunk_flatten {α : Type} (z n : Nat) (l : List α) (h : l.length = n * z) : (chunk z n l).flatten = l := by
  induction n generalizing l with
  | zero => simp at h; subst h; rfl
  | succ n ih =>
    rw [Nat.succ_mul] at h
    simp only [chunk, List.flatten_cons]
    rw [ih (l.drop z) (by simp; omega), List.take_append_drop]

theorem mapM_pv {g : Gh} {n : Nat} : ∀ {cs : List AV} {ps : List PV} {c : Array Value}, cs.mapM AV.pv = some ps → VRs g n cs c → ps.length = cs.length ∧ ∀ (k : Nat) p, ps[k]? = some p → ∃ v, c[k]? = some v ∧ PR g.ro p v := by
  intro cs ps c h hv
  have key : ∀ (cs : List AV) (ps : List PV), cs.mapM AV.pv = some ps → ps.length = cs.length ∧ ∀ (k : Nat) p, ps[k]? = some p → ∃ a, cs[k]? = some a ∧ a.pv = some p := by
    intro cs
    induction cs with
    | nil => intro ps h; simp at h; subst h; exact ⟨rfl, fun k p hk => by simp at hk⟩
    | cons a cs ih =>
      intro ps h
      rw [List.mapM_cons] at h
      cases ha : a.pv with
      | none => rw [ha] at h; cases h
      | some p =>
        rw [ha] at h
        cases hr : cs.mapM AV.pv with
        | none => rw [hr] at h; cases h
        | some qs =>
          rw [hr] at h
          cases h
          obtain ⟨h1, h2⟩ := ih qs hr
          refine ⟨by simp [h1], fun k q hk => ?_⟩
          cases k with
          | zero => simp at hk; subst hk; exact ⟨a, rfl, ha⟩
          | succ k => exact h2 k q hk
  obtain ⟨h1, h2⟩ := key cs ps h
  refine ⟨h1, fun k p hk => ?_⟩
  obtain ⟨a, h3, h4⟩ := h2 k p hk
  obtain ⟨v, h5, h6⟩ := hv.get h3
  exact ⟨v, h5, PR.of_pv h6 h4⟩

section rows
variable {P : Program} {g : Gh} {H : Mem} {w w1 : World} {K : AV → Mem → Prop} {c : Array Value} {e : TypeId} {frz : Nat × Nat} {z : Nat} {es : List (List PV)} {cap : Nat}

theorem row_new (hm : MR g H w) (hp : Push w w1 c e frz) (hv : ∀ (k : Nat) p, es.flatten[k]? = some p → ∃ v, c[k]? = some v ∧ PR g.ro p v) (g' : Gh) (hro : g'.ro = (g.addR w.heap.size es.flatten.length c).ro) :
    Row g'.ro w.heap.size 0 es.flatten (fun k => c.getD k undef) := by
  intro k p hk
  obtain ⟨v, h1, h2⟩ := hv k p hk
  have hl := lt_of_get hk
  have e : c.getD k undef = v := by rw [Array.getD_eq_getD_getElem?, h1]; rfl
  show g'.ro w.heap.size (0 + k) = some (c.getD k undef) ∧ PR g'.ro p (c.getD k undef)
  rw [e, hro]
  refine ⟨by simp only [Gh.addR]; rw [if_pos ⟨trivial, by omega⟩, Nat.zero_add]; exact h1, h2.mono fun b o v h => ?_⟩
  exact (hm.push_ro hp es.flatten.length).2.gle.ro b o v h

/-- A new row as pure data, with nothing known of what lies behind it, or with nothing behind it. -/
theorem new_row (hm : MR g H w) (hp : Push w w1 c e frz) (hz : ∀ x, x ∈ es → x.length = z) (hv : ∀ (k : Nat) p, es.flatten[k]? = some p → ∃ v, c[k]? = some v ∧ PR g.ro p v) (hlen : es.length ≤ cap)
    {k : Tk} (hk : k = .no ∨ (k = .ex ∧ cap = es.length)) (h : K (.sl z es k) H) : Ls P (SR H.length g w K) (.ok (.value (.slice (some ⟨w.heap.size, 0, none⟩) es.length cap)) w1) := by
  obtain ⟨h1, h2⟩ := hm.push_ro hp es.flatten.length
  refine ⟨_, _, _, h, .sl z es k ⟨w.heap.size, 0, none⟩ cap _ (.inr rfl) hlen hz (row_new hm hp hv _ rfl) ?_, h1, h2, Nat.le_refl _⟩
  rcases hk with rfl | ⟨rfl, e⟩
  · trivial
  · exact e

/-- With spare room behind it. -/
theorem new_tok (hm : MR g H w) (hp : Push w w1 c e frz) (hfr : ∀ o, o < c.size → (decide (frz.1 ≤ o) && decide (o < frz.2)) = false) (hz : ∀ x, x ∈ es → x.length = z)
    (hv : ∀ (k : Nat) p, es.flatten[k]? = some p → ∃ v, c[k]? = some v ∧ PR g.ro p v) (hlen : es.length ≤ cap) (hcap : c.size = cap * z) (h : K (.sl z es (.tk H.length)) (H ++ [.tok])) :
    Ls P (SR H.length g w K) (.ok (.value (.slice (some ⟨w.heap.size, 0, none⟩) es.length cap)) w1) := by
  obtain ⟨h1, h2⟩ := hm.push_tok hp hfr es.flatten.length
  refine ⟨_, _, _, h, .sl z es _ ⟨w.heap.size, 0, none⟩ cap _ (.inr rfl) hlen hz (row_new hm hp hv ((g.addR w.heap.size es.flatten.length c).addE H.length ⟨w.heap.size, es.flatten.length, c.size⟩) rfl) ?_, h1, h2, by simp⟩
  refine ⟨by simp, ?_⟩
  simp only [Gh.addE, if_true, Pl.mk.injEq]
  exact .inr ⟨trivial, by rw [flatten_length hz]; omega, by omega⟩

/-- As cells of one's own. -/
theorem new_hs (hm : MR g H w) (hp : Push w w1 c e frz) (hfr : ∀ o, o < c.size → (decide (frz.1 ≤ o) && decide (o < frz.2)) = false) {acs : List AV} {len : Nat} (hle : acs.length ≤ c.size)
    (hv : ∀ (i : Nat) a, acs[i]? = some a → ∃ v, c[i]? = some v ∧ VR g H.length a v) (hlen : len ≤ cap) (hcap : cap * z ≤ c.size) (h : K (.hs H.length 0 len len z) (H ++ [.cells acs])) :
    Ls P (SR H.length g w K) (.ok (.value (.slice (some ⟨w.heap.size, 0, none⟩) len cap)) w1) := by
  obtain ⟨h1, h2⟩ := hm.push_cells hp hfr hle hv
  refine ⟨_, _, _, h, ?_, h1, h2, by simp⟩
  have := VR.hs (g := g.addE H.length ⟨w.heap.size, 0, c.size⟩) (n := (H ++ [Ent.cells acs]).length) H.length 0 len len z cap (by simp) (Nat.le_refl _) hlen (by simp [Gh.addE]; exact hcap)
  simpa [Gh.addE] using this
end rows

def azeros (zc : List AV) : Nat → List AV
  | 0 => []
  | n + 1 => zc ++ azeros zc n

theorem azeros_length (zc : List AV) (n : Nat) : (azeros zc n).length = n * zc.length := by
  induction n with
  | zero => simp [azeros]
  | succ n ih => rw [azeros, List.length_append, ih, Nat.succ_mul]; omega

theorem azeros_get (zc : List AV) (n k : Nat) (h : k < n * zc.length) : (azeros zc n)[k]? = zc[k % zc.length]? := by
  induction n generalizing k with
  | zero => simp at h
  | succ n ih =>
    rw [Nat.succ_mul] at h
    simp only [azeros]
    rcases Nat.lt_or_ge k zc.length with hk | hk
    · rw [List.getElem?_append_left hk, Nat.mod_eq_of_lt hk]
    · rw [List.getElem?_append_right hk, ih _ (by omega)]
      congr 1
      exact (Nat.mod_eq_sub_mod hk).symm

theorem madeCells_rel {g : Gh} {n : Nat} {v : Value} {len sz : Nat} (hs : (zeroCs v).length = sz) : VRs g n (azeros (zeroCs v) len) (madeCells v.cells (len * sz)) := by
  have hsz : v.cells.size = sz := by rw [← hs]; simp [zeroCs]
  refine ⟨by rw [size_madeCells, azeros_length, hs], fun i a ha => ?_⟩
  have hi := lt_of_get ha
  rw [azeros_length] at hi
  rw [azeros_get _ _ _ hi, hs] at ha
  have h1 := (VRs_zero (g := g) (n := n) v).2 _ _ ha
  have hi' : i < len * sz := by rw [← hs]; exact hi
  have hpos : 0 < sz := by
    rcases Nat.eq_zero_or_pos sz with h0 | h0
    · rw [h0] at hi'; simp at hi'
    · exact h0
  have hlt : i % sz < v.cells.size := by rw [hsz]; exact Nat.mod_lt _ hpos
  have : (madeCells v.cells (len * sz)).getD i undef = v.cells.getD (i % sz) undef := by
    unfold madeCells
    rw [Array.getD_eq_getD_getElem?, Array.getElem?_map, Array.getElem?_range, if_pos hi']
    simp only [Option.map_some, Option.getD_some, hsz]
    rw [Array.getD_eq_getD_getElem?, Array.getElem?_eq_getElem hlt]
    rw [getElem!_pos v.cells _ hlt]
    rfl
  rw [this]
  exact h1

section
variable {P : Program} {fr : Frm} {H : Mem} {K : AV → Mem → Prop} {dst : Option Nat} {ty : TypeId} {pos : String} {after : Array Edge} {guard : Option (Nat × Bool)}

/-- m: 0: pure data; 2: cells of one's own. -/
def aBuildSlice (P : Program) (m : Nat) (t : TypeId) (len : Nat) (ps : List (Nat × AV)) (H : Mem) (K : AV → Mem → Prop) : Prop :=
  match P.underlying t with
  | some (.slice e) =>
    (match tinf P e with
    | some (sz, _, some z) => (zeroCs z).length = sz ∧ len * sz ≤ 16777216 ∧
      (match afill (fun i => some (i * sz, sz)) (azeros (zeroCs z) len) ps with
      | some cs =>
        (match m with
        | 0 => (match cs.mapM AV.pv with | some pcs => K (.sl sz (chunk sz len pcs) .ex) H | none => False)
        | _ => K (.hs H.length 0 len len sz) (H ++ [.cells cs]))
      | none => False)
    | _ => False)
  | _ => False

theorem afill_length {place : Nat → Option (Nat × Nat)} : ∀ (ps : List (Nat × AV)) (cs r : List AV), afill place cs ps = some r → r.length = cs.length
  | [], cs, r, h => by simp only [afill, Option.some.injEq] at h; rw [h]
  | (i, a) :: ps, cs, r, h => by
    simp only [afill] at h
    split at h
    · cases h
    · split at h
      · rw [afill_length ps _ r h, setAt_length]
      · cases h

theorem opS_buildSlice {t : TypeId} {len : Nat} {ps : Array (Nat × Operand)} (m : Nat) (h : aBuildSlice P m t len (ps.toList.map fun x => (x.1, aev fr x.2)) H K) : OpS P ⟨dst, .buildSlice t len ps, ty, pos, after, guard⟩ fr H K := fun g w ev hop hm => by
  have hps : ∀ p, p ∈ ps.toList → VR g H.length (aev fr p.2) (ev p.2) := fun p hp => hop p.2 (by
    simp only [Op.operands, List.mem_toArray, List.mem_map]
    exact ⟨p, hp, rfl⟩)
  have hrel := parts_rel (fr := fr) ps hps
  unfold aBuildSlice at h
  split at h
  · rename_i e ht
    split at h
    · rename_i sz b z hti
      obtain ⟨hzc, hle, h⟩ := h
      split at h
      · rename_i cs hfill
        obtain ⟨c', h3, h4⟩ := fill_rel _ _ _ _ _ (by simp) hrel (madeCells_rel (g := g) (n := H.length) (v := z) (len := len) hzc) hfill
        have hcl : cs.length = len * sz := by rw [afill_length _ _ _ hfill, azeros_length, hzc]
        have hp : Push w (w.alloc (.cells c' e)) c' e (0, 0) := ⟨rfl, rfl, rfl, rfl⟩
        have : (execOp ev ⟨dst, .buildSlice t len ps, ty, pos, after, guard⟩).run P w = .ok (.value (.slice (some ⟨w.heap.size, 0, none⟩) len len)) (w.alloc (.cells c' e)) := by
          simp only [execOp, Instr.buildSlice]
          rw [Sem.run_bind, Sem.run_bind, run_underlying ht, Result.andThen_ok]
          simp only
          rw [Sem.run_bind, run_sizeOf hti, Result.andThen_ok]
          rw [if_neg (by omega)]
          have hmade : ((Array.range (len * sz)).map fun x => z.cells[x % z.cells.size]!) = madeCells z.cells (len * sz) := rfl
          by_cases h0 : len * sz = 0
          · have he0 : madeCells z.cells (len * sz) = ((Array.range (len * sz)).map fun x => (#[] : Array Value)[x % (#[] : Array Value).size]!) := by rw [h0]; simp [madeCells, Array.range_zero']
            rw [if_pos h0]
            simp only [Sem.run_bind, Sem.run_pure, Result.andThen_ok]
            rw [← he0, h3]
            simp only [Sem.run_bind, newRow, run_newObj, Result.andThen_ok, Sem.run_pure]
            rfl
          · rw [if_neg h0]
            simp only [Sem.run_bind, run_zeroValue hti, Sem.run_pure, Result.andThen_ok]
            rw [hmade, h3]
            simp only [Sem.run_bind, newRow, run_newObj, Result.andThen_ok, Sem.run_pure]
            rfl
        rw [this]
        split at h
        · split at h
          · rename_i pcs hpv
            obtain ⟨q1, q2⟩ := mapM_pv hpv h4
            have hpl : pcs.length = len * sz := by rw [q1, hcl]
            have := new_row (P := P) (K := K) (es := chunk sz len pcs) (z := sz) (cap := len) hm hp (chunk_mem _ _ _ hpl) (by rw [chunk_flatten _ _ _ hpl]; exact q2) (by rw [chunk_length]; exact Nat.le_refl _) (.inr ⟨rfl, (chunk_length _ _ _).symm⟩) h
            rw [chunk_length] at this
            exact this
          · exact h.elim
        · exact new_hs hm hp (fun o _ => by simp) (Nat.le_of_eq h4.1.symm) (fun i a ha => h4.get ha) (Nat.le_refl _) (by rw [h4.1, hcl]; exact Nat.le_refl _) h
      · exact h.elim
    · exact h.elim
  · exact h.elim

def aMake (P : Program) (m : Nat) (t : TypeId) (l c : AV) (H : Mem) (K : AV → Mem → Prop) : Prop :=
  match P.underlying t, l, c with
  | some (.slice e), .sc (.int _ l), .sc (.int _ c) =>
    (match tinf P e with
    | some (sz, by_, some z) => (zeroCs z).length = sz ∧ 0 ≤ l ∧ c = l ∧ by_ * l ≤ 140737488355328 ∧ l ≤ 9223372036854775807 ∧
      (match m with
      | 0 => (match (zeroCs z).mapM AV.pv with | some pcs => K (.sl sz (List.replicate l.toNat pcs) .ex) H | none => False)
      | _ => K (.hs H.length 0 l.toNat l.toNat sz) (H ++ [.cells (azeros (zeroCs z) l.toNat)]))
    | _ => False)
  | _, _, _ => False

theorem opS_makeSlice {t : TypeId} {x y : Operand} (m : Nat) (h : aMake P m t (aev fr x) (aev fr y) H K) : OpS P ⟨dst, .makeSlice t x y, ty, pos, after, guard⟩ fr H K := fun g w ev hop hm => by
  have hx := hop x (by simp [Op.operands])
  have hy := hop y (by simp [Op.operands])
  unfold aMake at h
  split at h
  · rename_i e k1 l k2 c ht e1 e2
    rw [e1] at hx; rw [e2] at hy
    split at h
    · rename_i sz by_ z hti
      obtain ⟨hzc, h0, rfl, hb, h63, h⟩ := h
      obtain ⟨i, hi, i1, i2, i3⟩ := tinf_info hti
      have hr := run_make (P := P) w t e i z ht hi i3 k1 k2 c c h0 (Int.le_refl _) (by rw [i2]; omega) h63
      rw [i1] at hr
      have hp : Push w (w.alloc (.cells (madeCells z.cells (c.toNat * sz)) e)) (madeCells z.cells (c.toNat * sz)) e (0, 0) := ⟨rfl, rfl, rfl, rfl⟩
      have : (execOp ev ⟨dst, .makeSlice t x y, ty, pos, after, guard⟩).run P w = .ok (.value (.slice (some ⟨w.heap.size, 0, none⟩) c.toNat c.toNat)) (w.alloc (.cells (madeCells z.cells (c.toNat * sz)) e)) := by
        simp only [execOp, Sem.run_bind, VR_sc hx, VR_sc hy, hr, Result.andThen_ok, Sem.run_pure]
      rw [this]
      have hmr := madeCells_rel (g := g) (n := H.length) (v := z) (len := c.toNat) hzc
      split at h
      · split at h
        · rename_i pcs hpv
          have hpl : pcs.length = sz := by
            have := mapM_pv hpv (VRs_zero (g := g) (n := H.length) z)
            rw [this.1, hzc]
          have hfl : (List.replicate c.toNat pcs).flatten.length = c.toNat * sz := by
            rw [flatten_length (z := sz) (fun e he => by rw [List.eq_of_mem_replicate he]; exact hpl), List.length_replicate]
          have := new_row (P := P) (K := K) (es := List.replicate c.toNat pcs) (z := sz) (cap := c.toNat) hm hp (fun e he => by rw [List.eq_of_mem_replicate he]; exact hpl) (fun k p hk => by
            have hlt := lt_of_get hk
            rw [hfl] at hlt
            have hpos : 0 < sz := by
              rcases Nat.eq_zero_or_pos sz with h0 | h0
              · rw [h0] at hlt; simp at hlt
              · exact h0
            have hkm : (List.replicate c.toNat pcs).flatten[k]? = pcs[k % sz]? := by
              have hi : (List.replicate c.toNat pcs)[k / sz]? = some pcs := by
                rw [List.getElem?_replicate, if_pos (Nat.div_lt_of_lt_mul (by rw [Nat.mul_comm]; exact hlt))]
              have := flatten_at (z := sz) (fun e he => by rw [List.eq_of_mem_replicate he]; exact hpl) hi
              have hdm : k / sz * sz + k % sz = k := by rw [Nat.mul_comm]; exact Nat.div_add_mod k sz
              have h2 : pcs[k % sz]? = (((List.replicate c.toNat pcs).flatten.drop (k / sz * sz)).take sz)[k % sz]? := by rw [← this]
              rw [h2, List.getElem?_take_of_lt (Nat.mod_lt _ hpos), List.getElem?_drop, hdm]
            rw [hkm] at hk
            obtain ⟨v, g1, g2⟩ := (mapM_pv hpv (VRs_zero (g := g) (n := H.length) z)).2 _ p hk
            refine ⟨v, ?_, g2⟩
            have hsz : z.cells.size = sz := by rw [← hzc]; simp [zeroCs]
            unfold madeCells
            rw [Array.getElem?_map, Array.getElem?_range, if_pos hlt]
            simp only [Option.map_some, hsz]
            rw [getElem!_pos z.cells _ (by rw [hsz]; exact Nat.mod_lt _ hpos)]
            rw [Array.getElem?_eq_getElem (by rw [hsz]; exact Nat.mod_lt _ hpos)] at g1
            exact g1) (by simp) (.inr ⟨rfl, by simp⟩) h
          rw [List.length_replicate] at this
          exact this
        · exact h.elim
      · exact new_hs hm hp (fun o _ => by simp) (Nat.le_of_eq hmr.1.symm) (fun i a ha => hmr.get ha) (Nat.le_refl _) (by rw [size_madeCells]; exact Nat.le_refl _) h
    · exact h.elim
  · exact h.elim

end
end Go.Proofs.Yteclchefihcjkaa.Am
