/- Operations: append, copy, the bytes of a text. -/
import Derived.Test.YteclchefihcjkaaM7
namespace Go.Proofs.Yteclchefihcjkaa.Am
open Go

theorem byteRow {ro : Nat → Nat → Option Value} (l : List UInt8) (k : Nat) (p : PV) (h : (l.map encB).flatten[k]? = some p) : ∃ b, l[k]? = some b ∧ p = .sc (.int .u8 b.toNat) ∧ PR ro p (.int .u8 b.toNat) := by
  have : (l.map encB).flatten = l.map fun b => PV.sc (.int .u8 b.toNat) := by
    induction l with
    | nil => rfl
    | cons b l ih =>
      have ih' : (l.map encB).flatten = l.map fun b => PV.sc (.int .u8 b.toNat) := by
        clear h
        clear ih
        induction l with
        | nil => rfl
        | cons c l ih => rw [List.map_cons, List.flatten_cons, ih]; rfl
      rw [List.map_cons, List.flatten_cons, ih']; rfl
  rw [this, List.getElem?_map] at h
  cases hb : l[k]? with
  | none => rw [hb] at h; cases h
  | some b =>
    rw [hb] at h
    simp only [Option.map_some, Option.some.injEq] at h
    subst h
    exact ⟨b, rfl, rfl, .sc _ rfl⟩

theorem encB_length (l : List UInt8) : ∀ e, e ∈ l.map encB → e.length = 1 := by
  intro e he
  obtain ⟨b, _, rfl⟩ := List.mem_map.1 he
  rfl

/-- What is appended, or copied, as pure data. -/
def srcP (z : Nat) (x : AV) (H : Mem) : Option (List (List PV)) :=
  match x with
  | .sl z' es _ => if z' = z then some es else none
  | .sc (.slice none 0 0) => some []
  | .sc (.string s) => if z = 1 then some (s.data.toList.map encB) else none
  | .hs id off len _ s => if s = z then
      (match H[id]? with
      | some (.cells cs) => if off + len * z ≤ cs.length then (((cs.drop off).take (len * z)).mapM AV.pv).map (chunk z len) else none
      | _ => none) else none
  | _ => none

section
variable {P : Program}

theorem hs_cells {g : Gh} {H : Mem} {w : World} (hm : MR g H w) {id : Nat} {cs : List AV} (he : H[id]? = some (.cells cs)) {off n : Nat} (hl : off + n ≤ cs.length) :
    ∃ news : List Value, news.length = n ∧ (∀ (j : Nat) v, news[j]? = some v → w.cell? ⟨(g.mu id).b, (g.mu id).o + off + j, none⟩ = some v) ∧ VRs g H.length ((cs.drop off).take n) news.toArray := by
  have hent := hm.cellAt he
  have hcell : ∀ j, j < n → ∃ v, w.cell? ⟨(g.mu id).b, (g.mu id).o + (off + j), none⟩ = some v ∧ VR g H.length (cs.getD (off + j) .any) v := fun j hj => by
    obtain ⟨v, h1, h2⟩ := hent (off + j) (cs[off + j]'(by omega)) (List.getElem?_eq_getElem (by omega))
    exact ⟨v, h1, by simpa [List.getD, List.getElem?_eq_getElem (show off + j < cs.length by omega)] using h2⟩
  let f : Nat → Value := fun j => if hj : j < n then Classical.choose (hcell j hj) else undef
  have hf : ∀ j (hj : j < n), w.cell? ⟨(g.mu id).b, (g.mu id).o + (off + j), none⟩ = some (f j) ∧ VR g H.length (cs.getD (off + j) .any) (f j) := fun j hj => by
    simp only [f]; rw [dif_pos hj]; exact Classical.choose_spec (hcell j hj)
  refine ⟨(List.range n).map f, by simp, fun j v hj => ?_, by simp; omega, fun i c hc => ?_⟩
  · have hlt := lt_of_get hj
    simp at hlt
    rw [List.getElem?_map, List.getElem?_range hlt] at hj
    simp only [Option.map_some, Option.some.injEq] at hj
    subst hj
    rw [Nat.add_assoc]; exact (hf j hlt).1
  · have hi : i < n := by have := lt_of_get hc; simp at this; omega
    have := (hf i hi).2
    rw [List.getElem?_take_of_lt hi, List.getElem?_drop] at hc
    simp only [List.getD, hc, Option.getD_some] at this
    simpa [Array.getD_eq_getD_getElem?, hi] using this

theorem run_src {z : Nat} {x : AV} {H : Mem} {es : List (List PV)} (hs : srcP z x H = some es) {g : Gh} {w : World} {v : Value} (hm : MR g H w) (hv : VR g H.length x v) :
    (∀ e, e ∈ es → e.length = z) ∧ (∀ w', (Builtin.lenOf v).run P w' = .ok es.length w') ∧ ∃ news : List Value, news.length = es.length * z ∧
      (∀ w' : World, w'.heap = w.heap → (Builtin.firstCells z es.length v).run P w' = .ok news.toArray w') ∧ (∀ (k : Nat) p, es.flatten[k]? = some p → ∃ u, news[k]? = some u ∧ PR g.ro p u) := by
  unfold srcP at hs
  cases hv with
  | nil z' =>
    simp only at hs
    split at hs
    · cases hs
      exact ⟨(fun e he => by cases he), fun w' => rfl, [], by simp, fun w' _ => run_firstCells_none w' _ _ _ _, fun k p hk => by simp at hk⟩
    · cases hs
  | sl z' es' k a cap f hsp hcap hz hrow hk =>
    simp only at hs
    split at hs
    · rename_i hzz
      subst hzz
      cases hs
      have hfl := flatten_length hz
      refine ⟨hz, fun w' => rfl, (List.range (es.length * z')).map f, by simp, fun w' hw => ?_, fun k p hk => ?_⟩
      · refine run_firstCells_some w' z' es.length a es.length cap _ (by simp) fun j v hj => ?_
        have hlt := lt_of_get hj
        simp at hlt
        rw [List.getElem?_map, List.getElem?_range hlt] at hj
        simp only [Option.map_some, Option.some.injEq] at hj
        subst hj
        rw [add_plain (hsp.resolve_left (fun h0 => by subst h0; simp_all)), cell_of (w := w) (by rw [hw])]
        exact hm.ro _ _ _ (hrow j (es.flatten[j]'(by omega)) (List.getElem?_eq_getElem (by omega))).1
      · have hlt := lt_of_get hk
        exact ⟨f k, by rw [List.getElem?_map, List.getElem?_range (by omega)]; rfl, (hrow k p hk).2⟩
    · cases hs
  | sc =>
    split at hs
    · rename_i e; cases e
    · rename_i e
      cases e
      cases hs
      exact ⟨(fun e he => by cases he), fun w' => rfl, [], by simp, fun w' _ => run_firstCells_none w' _ _ _ _, fun k p hk => by simp at hk⟩
    · rename_i s e
      cases e
      split at hs
      · rename_i hz1
        subst hz1
        cases hs
        refine ⟨encB_length _, fun w' => by simp [Builtin.lenOf], s.data.toList.map fun b => Value.int .u8 b.toNat, by simp, fun w' _ => ?_, fun k p hk => ?_⟩
        · simp only [Builtin.firstCells, Sem.run_pure, List.length_map]
          congr 1
          apply Array.ext'
          simp
        · obtain ⟨b, h1, h2, h3⟩ := byteRow (ro := g.ro) _ k p hk
          exact ⟨_, by rw [List.getElem?_map, h1]; rfl, h3⟩
      · cases hs
    · rename_i e; cases e
    · cases hs
  | hs id off len mc s cap hid hl hmc hcap =>
    simp only at hs
    split at hs
    · rename_i hzz
      subst hzz
      split at hs
      · rename_i cs he
        split at hs
        · rename_i hle
          cases hpv : ((cs.drop off).take (len * s)).mapM AV.pv with
          | none => rw [hpv] at hs; cases hs
          | some ps =>
            rw [hpv] at hs
            cases hs
            obtain ⟨news, h1, h2, h3⟩ := hs_cells hm he hle
            obtain ⟨q1, q2⟩ := mapM_pv hpv h3
            have hpl : ps.length = len * s := by rw [q1]; simp; omega
            refine ⟨chunk_mem _ _ _ hpl, fun w' => by rw [chunk_length]; rfl, news, by rw [chunk_length]; exact h1, fun w' hw => ?_, fun k p hk => ?_⟩
            · rw [chunk_length]
              refine run_firstCells_some w' s len ⟨(g.mu id).b, (g.mu id).o + off, none⟩ len cap _ h1 fun j v hj => ?_
              rw [add_plain rfl, cell_of (w := w) (by rw [hw])]
              exact h2 j v hj
            · rw [chunk_flatten _ _ _ hpl] at hk
              obtain ⟨u, h4, h5⟩ := q2 k p hk
              exact ⟨u, by simpa using h4, h5⟩
        · cases hs
      · cases hs
    · cases hs
  | hn id off s a hid =>
    have e : es = [] := by
      simp only at hs
      split at hs
      · split at hs
        · split at hs
          · simp only [Nat.zero_mul, List.take_zero, List.mapM_nil] at hs
            cases hs; rfl
          · cases hs
        · cases hs
      · cases hs
    subst e
    refine ⟨(fun e he => by cases he), fun w' => rfl, [], by simp, fun w' _ => ?_, fun k p hk => by simp at hk⟩
    cases a with
    | none => exact run_firstCells_none w' _ _ _ _
    | some a => exact run_firstCells_some w' z 0 a 0 0 [] (by simp) fun j v hj => by simp at hj
  | _ => cases hs

/-! ### append -/

/-- One row more, behind a growing append. -/
theorem run_grow {t u ty e : TypeId} {sz by_ : Nat} {zv : Value} {du : TypeDesc} (ht : P.underlying t = some (.slice e)) (hu : P.underlying u = some du) (hdu : du = .string ∨ ∃ e', du = .slice e')
    (hti : tinf P e = some (sz, by_, some zv)) (hzc : (zeroCs zv).length = sz) {base : Option Addr} {sLen sCap n : Nat} {x : Value} {w : World} {olds news : List Value}
    (hn : ∀ w', (Builtin.lenOf x).run P w' = .ok n w') (hg : sCap < sLen + n) (hfit : (sLen + n) * by_ ≤ 140737488355328) (h63 : sLen + n ≤ 9223372036854775807)
    (ho : (Builtin.firstCells sz sLen (.slice base sLen sCap)).run P w.drew = .ok olds.toArray w.drew) (hnw : (Builtin.firstCells sz n x).run P w.drew = .ok news.toArray w.drew)
    (hol : olds.length = sLen * sz) (hnl : news.length = n * sz) :
    ∃ c w1 cap, (Builtin.append_ #[t, u] ty #[.slice base sLen sCap, x]).run P w = .ok (.slice (some ⟨w.heap.size, 0, none⟩) (sLen + n) cap) w1 ∧ Push w w1 c e (0, 0) ∧ sLen + n ≤ cap ∧ c.size = cap * sz ∧
      ∀ k : Nat, k < (olds ++ news).length → c[k]? = (olds ++ news)[k]? := by
  obtain ⟨i, hi, i1, i2, i3⟩ := tinf_info hti
  have hcap : sLen + n ≤ grownCap w (sLen + n) sCap e := by unfold grownCap Question.cut; exact Nat.le_add_right _ _
  have hzs : zv.cells.size = sz := by rw [← hzc]; simp [zeroCs]
  refine ⟨olds.toArray ++ news.toArray ++ Builtin.zeroCells zv.cells (grownCap w (sLen + n) sCap e - (sLen + n)), w.drew.alloc (.cells (olds.toArray ++ news.toArray ++ Builtin.zeroCells zv.cells (grownCap w (sLen + n) sCap e - (sLen + n))) e), grownCap w (sLen + n) sCap e, ?_, ⟨rfl, rfl, rfl, rfl⟩, hcap, ?_, ?_⟩
  · have hneed : ¬ (sLen + n ≤ sCap) := by omega
    have h63' : ¬ (9223372036854775807 < ((sLen : Int) + (n : Int))) := by omega
    have h48 := growslice_fits (bytes := by_) hg hfit
    have h48' : ¬ (281474976710656 < Builtin.nextslicecap (sLen + n) sCap * i.bytes) := by rw [i2]; omega
    have hsz : i.size = sz := i1
    rcases hdu with rfl | ⟨e', rfl⟩ <;>
      simp [Builtin.append_, run_underlying ht, run_underlying hu, sizeOf, typeInfo, zeroValue, hi, i1, i3, hn, hneed, h63', h48', Question.forced, ho, hnw, newRow, grownCap] <;>
      (congr 2; apply Array.ext'; simp [List.append_assoc])
  · simp [hol, hnl, Builtin.zeroCells, hzs]
    rw [← Nat.add_mul, ← Nat.add_mul]
    congr 1
    omega
  · intro k hk
    rw [Array.getElem?_append_left (by simpa using hk)]
    simp

/-- There is room, or nothing comes. -/
theorem run_room {t u ty e : TypeId} {sz by_ : Nat} {zv : Option Value} {du : TypeDesc} (ht : P.underlying t = some (.slice e)) (hu : P.underlying u = some du) (hdu : du = .string ∨ ∃ e', du = .slice e')
    (hti : tinf P e = some (sz, by_, zv)) {base : Option Addr} {sLen sCap n : Nat} {x : Value} {w w1 : World} {news : List Value}
    (hn : ∀ w', (Builtin.lenOf x).run P w' = .ok n w') (hg : sLen + n ≤ sCap) (hnw : (Builtin.firstCells sz n x).run P w = .ok news.toArray w)
    (hst : ∀ a, base = some a → (storeCells (a.add (sLen * sz)) news).run P w = .ok () w1) (hno : base = none → w1 = w) :
    (Builtin.append_ #[t, u] ty #[.slice base sLen sCap, x]).run P w = .ok (.slice base (sLen + n) sCap) w1 := by
  obtain ⟨i, hi, i1, i2, i3⟩ := tinf_info hti
  cases base with
  | none =>
    have e := hno rfl
    subst e
    rcases hdu with rfl | ⟨e', rfl⟩ <;>
      simp [Builtin.append_, run_underlying ht, run_underlying hu, sizeOf, typeInfo, hi, i1, hn, hg, hnw]
  | some a =>
    have := hst a rfl
    rcases hdu with rfl | ⟨e', rfl⟩ <;>
      simp [Builtin.append_, run_underlying ht, run_underlying hu, sizeOf, typeInfo, hi, i1, hn, hg, hnw, this]

theorem b_append {a : Array TypeId} {t : TypeId} {c : Array Bool} {v : Array Value} : builtin .append a t c v = (do pure (.value (← Builtin.append_ a t v))) := rfl
theorem b_copy {a : Array TypeId} {t : TypeId} {c : Array Bool} {v : Array Value} : builtin .copy a t c v = (do pure (.value (← Builtin.copy_ a t v))) := rfl
/-- A new row by an append: m: 0: nothing is known of what lies behind it; 1: spare room; 2: cells of one's own. -/
def aFresh (m sz : Nat) (es : List (List PV)) (H : Mem) (K : AV → Mem → Prop) : Prop :=
  match m with
  | 0 => K (.sl sz es .no) H
  | 1 => K (.sl sz es (.tk H.length)) (H ++ [.tok])
  | _ => K (.hs H.length 0 es.length es.length sz) (H ++ [.cells (es.flatten.map PV.av)])

def sliceStr (P : Program) (u : TypeId) : Bool := match P.underlying u with | some .string | some (.slice _) => true | _ => false

def aAppend (P : Program) (m : Nat) (t u : TypeId) (b x : AV) (H : Mem) (K : AV → Mem → Prop) : Prop :=
  sliceStr P u = true ∧
  match P.underlying t with
  | some (.slice e) =>
    (match tinf P e with
    | some (sz, by_, some z) => (zeroCs z).length = sz ∧
      (match srcP sz x H with
      | some ses =>
        (match b with
        | .sc (.slice none 0 0) => ses.length * by_ ≤ 140737488355328 ∧ ses.length ≤ 9223372036854775807 ∧ aFresh m sz ses H K
        | .sl z' es .ex => z' = sz ∧ (es.length + ses.length) * by_ ≤ 140737488355328 ∧ es.length + ses.length ≤ 9223372036854775807 ∧ (2 ≤ m → ses ≠ [] ∨ es = []) ∧ aFresh m sz (es ++ ses) H K
        | .sl z' es (.tk t) => z' = sz ∧ H[t]? = some .tok ∧ (es.length + ses.length) * by_ ≤ 140737488355328 ∧ es.length + ses.length ≤ 9223372036854775807 ∧
          K (.sl sz (es ++ ses) (.tk H.length)) (H.set t .dead ++ [.tok])
        | .sl z' es .no => z' = sz ∧ ses = [] ∧ K (.sl sz es .no) H
        | _ => False)
      | none => False)
    | _ => False)
  | _ => False

theorem fresh_sound {g : Gh} {H : Mem} {w w1 : World} {K : AV → Mem → Prop} {m sz cap : Nat} {es : List (List PV)} {c : Array Value} {e : TypeId} (hm : MR g H w) (hp : Push w w1 c e (0, 0)) (hz : ∀ x, x ∈ es → x.length = sz)
    (hv : ∀ (k : Nat) p, es.flatten[k]? = some p → ∃ v, c[k]? = some v ∧ PR g.ro p v) (hlen : es.length ≤ cap) (hcap : c.size = cap * sz) (h : aFresh m sz es H K) :
    Ls P (SR H.length g w K) (.ok (.value (.slice (some ⟨w.heap.size, 0, none⟩) es.length cap)) w1) := by
  unfold aFresh at h
  split at h
  · exact new_row hm hp hz hv hlen (.inl rfl) h
  · exact new_tok hm hp (fun o _ => by simp) hz hv hlen hcap h
  · refine new_hs hm hp (fun o _ => by simp) ?_ (fun i a ha => ?_) hlen (Nat.le_of_eq hcap.symm) h
    · rw [List.length_map, flatten_length hz, hcap]; exact Nat.mul_le_mul_right _ hlen
    · rw [List.getElem?_map] at ha
      cases hx : es.flatten[i]? with
      | none => rw [hx] at ha; cases ha
      | some p =>
        rw [hx] at ha
        simp only [Option.map_some, Option.some.injEq] at ha
        subst ha
        obtain ⟨v, h1, h2⟩ := hv i p hx
        exact ⟨v, h1, VR.of_PR h2⟩

/-- An append in place. -/
theorem MR.tok_in {g : Gh} {H : Mem} {w w1 : World} {t : Nat} {c c' : Array Value} {e : TypeId} {frz : Nat × Nat} {k : Nat} (hm : MR g H w) (ht : H[t]? = some .tok) (hre : ¬ (g.mu t).l < (g.mu t).o) (hb : w.heap[(g.mu t).b]? = some (.cells c e frz))
    (hu : Upd w w1 (g.mu t).b (.cells c' e frz)) (hs : c'.size = c.size) (hlt : ∀ i, i < (g.mu t).o → c'[i]? = c[i]?) :
    MR (({ g with ro := fun b o => if b = (g.mu t).b ∧ (g.mu t).o ≤ o ∧ o < (g.mu t).o + k then c'[o]? else g.ro b o } : Gh).addE H.length ⟨(g.mu t).b, (g.mu t).o + k, (g.mu t).l⟩) (H.set t .dead ++ [.tok]) w1 ∧
    Ev H.length g w (({ g with ro := fun b o => if b = (g.mu t).b ∧ (g.mu t).o ≤ o ∧ o < (g.mu t).o + k then c'[o]? else g.ro b o } : Gh).addE H.length ⟨(g.mu t).b, (g.mu t).o + k, (g.mu t).l⟩) w1 := by
  obtain ⟨h1, h2, h3⟩ := (hm.ent t _ ht).resolve_left hre
  have hbl := (hm.ow _ _ h1).1
  have hgle : Gle H.length g (({ g with ro := fun b o => if b = (g.mu t).b ∧ (g.mu t).o ≤ o ∧ o < (g.mu t).o + k then c'[o]? else g.ro b o } : Gh).addE H.length ⟨(g.mu t).b, (g.mu t).o + k, (g.mu t).l⟩) := by
    refine ⟨fun b o v h => ?_, fun id hid => by simp only [Gh.addE]; rw [if_neg (by omega)]⟩
    simp only [Gh.addE]
    by_cases hx : b = (g.mu t).b ∧ (g.mu t).o ≤ o ∧ o < (g.mu t).o + k
    · obtain ⟨rfl, hx1, _⟩ := hx
      have := h3 o v h
      omega
    · rw [if_neg hx]; exact h
  refine ⟨⟨fun b o v hro => ?_, fun id x hx => ?_, fun b id ho => ?_⟩, ⟨hgle, fun b hb' ho => ?_, by rw [hu.size]; omega, hu.os, hu.tape, hu.output⟩⟩
  · simp only [Gh.addE] at hro
    by_cases hx : b = (g.mu t).b ∧ (g.mu t).o ≤ o ∧ o < (g.mu t).o + k
    · rw [if_pos hx] at hro
      unfold World.cell?
      rw [hx.1, hu.same hbl]; exact hro
    · rw [if_neg hx] at hro
      have hw := hm.ro b o v hro
      by_cases hbb : b = (g.mu t).b
      · subst hbb
        have ho := h3 o v hro
        unfold World.cell? at hw ⊢
        simp only [hb] at hw
        simp only [hu.same hbl]
        rw [if_neg (by simp)] at hw ⊢
        rw [hlt o ho]; exact hw
      · rw [hu.cell_other hbb]; exact hw
  · rcases get_snoc hx with hx | ⟨rfl, rfl⟩
    · rcases get_set hx with ⟨hne, hx⟩ | ⟨rfl, rfl, _⟩
      · have hid := lt_of_get hx
        have he := hm.ent id x hx
        rcases he.own hid with hfr' | hown
        · exact hfr' _ _ _ hgle
        · refine he.keep hid hgle (by simp) fun b hown => ?_
          have hbb : b ≠ (g.mu t).b := fun hbb => by rw [hbb, h1] at hown; cases hown; exact hne rfl
          refine ⟨?_, fun o => ?_, hu.other hbb⟩
          · simp only [Gh.addE]; rw [if_neg hbb]; exact hown
          · simp only [Gh.addE]; rw [if_neg (fun hx => hbb hx.1)]
      · trivial
    · have hl : (H.set t Ent.dead).length = H.length := by simp
      simp only [EntR, Gh.addE, hl, if_true]
      refine .inr ⟨trivial, ?_, fun o v hv => ?_⟩
      · obtain ⟨c2, e2, fr2, g1, g2, g3⟩ := h2
        rw [hb] at g1; cases g1
        exact ⟨c', e, frz, hu.same hbl, by omega, g3⟩
      · by_cases hx : (g.mu t).o ≤ o ∧ o < (g.mu t).o + k
        · exact hx.2
        · rw [if_neg (fun hy => hx ⟨hy.2.1, hy.2.2⟩)] at hv
          have := h3 o v hv; omega
  · simp only [Gh.addE] at ho
    rw [hu.size]
    by_cases hbb : b = (g.mu t).b
    · rw [if_pos hbb] at ho; cases ho; rw [hbb]; exact ⟨hbl, by simp⟩
    · rw [if_neg hbb] at ho
      have := hm.ow b id ho
      exact ⟨this.1, by simp; omega⟩
  · have hbb : b ≠ (g.mu t).b := fun hbb => by rw [hbb, h1] at ho; cases ho
    refine ⟨?_, hu.other hbb⟩
    simp only [Gh.addE]; rw [if_neg hbb]; exact ho

end
end Go.Proofs.Yteclchefihcjkaa.Am
