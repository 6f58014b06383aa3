/- Operations: copies, variables, fields, elements, loads and stores, arithmetic, conversions between numbers. -/
import Derived.Test.YteclchefihcjkaaM2
namespace Go.Proofs.Yteclchefihcjkaa.Am
open Go

theorem sr_here {P : Program} {g : Gh} {H : Mem} {w : World} {K : AV → Mem → Prop} {r : AV} {v : Value} (hm : MR g H w) (hv : VR g H.length r v) (hk : K r H) :
    Ls P (SR H.length g w K) (.ok (.value v) w) := ⟨r, H, g, hk, hv, hm, .refl _ _ _, Nat.le_refl _⟩

def undefA : AV := .sc (.tuple #[])

def tinf (P : Program) (t : TypeId) : Option (Nat × Nat × Option Value) := (P.info? t).map fun i => (i.size, i.bytes, i.zero)
def aggT (P : Program) (t : TypeId) : Option Bool := (P.underlying t).map fun | .struct _ | .array _ _ => true | _ => false

theorem run_isAgg {P : Program} {t : TypeId} {b : Bool} (h : aggT P t = some b) (w : World) : (isAgg t).run P w = .ok b w := by
  unfold aggT at h
  cases hu : P.underlying t with
  | none => rw [hu] at h; cases h
  | some d =>
    rw [hu] at h
    simp only [Option.map_some, Option.some.injEq] at h
    subst h
    simp only [isAgg, Sem.run_bind, run_underlying hu, Result.andThen_ok]
    cases d <;> rfl

theorem tinf_info {P : Program} {t : TypeId} {s b : Nat} {z : Option Value} (h : tinf P t = some (s, b, z)) : ∃ i, P.info? t = some i ∧ i.size = s ∧ i.bytes = b ∧ i.zero = z := by
  unfold tinf at h
  cases hi : P.info? t with
  | none => rw [hi] at h; cases h
  | some i => rw [hi] at h; simp only [Option.map_some, Option.some.injEq, Prod.mk.injEq] at h; exact ⟨i, rfl, h.1, h.2.1, h.2.2⟩

theorem run_sizeOf {P : Program} {t : TypeId} {s b : Nat} {z : Option Value} (h : tinf P t = some (s, b, z)) (w : World) : (sizeOf t).run P w = .ok s w := by
  obtain ⟨i, hi, h1, _, _⟩ := tinf_info h
  simp [sizeOf, typeInfo, hi, h1]

theorem run_zeroValue {P : Program} {t : TypeId} {s b : Nat} {z : Value} (h : tinf P t = some (s, b, some z)) (w : World) : (zeroValue t).run P w = .ok z w := by
  obtain ⟨i, hi, _, _, h3⟩ := tinf_info h
  simp [zeroValue, typeInfo, hi, h3]

/-! ### cells of a value -/

def AV.cells : AV → List AV
  | .ag cs => cs
  | a => [a]

/-- Its cells are known. -/
def AV.flat : AV → Bool
  | .any => false
  | .sc (.agg _) => false
  | _ => true

/-- It may stand in one cell. -/
def AV.cellish : AV → Bool
  | .any | .ag _ | .tp _ => false
  | .sc (.agg _) | .sc (.tuple _) => false
  | _ => true

theorem VR.cells {g : Gh} {n : Nat} {a : AV} {v : Value} (h : VR g n a v) (hf : a.flat = true) : VRs g n a.cells v.cells := by
  have one : ∀ (a : AV) (v : Value), VR g n a v → VRs g n [a] #[v] := fun a v h => ⟨rfl, fun i c hc => by
    cases i with
    | zero => simp at hc; subst hc; exact h
    | succ i => simp at hc⟩
  have h' := h
  cases h with
  | any v => cases hf
  | sc v => cases v <;> first | exact one _ _ h' | cases hf
  | nil z => exact one _ _ h'
  | sl z es k a cap f h1 h2 h3 h4 h5 => exact one _ _ h'
  | ag cs vs hs h => exact ⟨hs, h⟩
  | tp cs vs hs h => exact one _ _ h'
  | pt id off hid => exact one _ _ h'
  | ep cs a f h1 h2 => exact one _ _ h'
  | hs id off len mc s cap h1 h2 h3 h4 => exact one _ _ h'
  | hn id off s a h1 => exact one _ _ h'
  | mp id hid => exact one _ _ h'
  | fn f fs cs vf vc h1 h2 h3 h4 => exact one _ _ h'

theorem VR.cellish {g : Gh} {n : Nat} {a : AV} {v : Value} (h : VR g n a v) (hf : a.cellish = true) : v.oneCell' = true := by
  cases h with
  | sc v => cases v <;> first | rfl | cases hf
  | any v => cases hf
  | ag => cases hf
  | tp => cases hf
  | nil => rfl
  | sl => rfl
  | pt => rfl
  | ep => rfl
  | hs => rfl
  | hn => rfl
  | mp => rfl
  | fn => rfl

def setAt (cs : List AV) (k : Nat) : List AV → List AV
  | [] => cs
  | v :: vs => setAt (cs.set k v) (k + 1) vs

def updA (c : Array Value) (k : Nat) : List Value → Array Value
  | [] => c
  | v :: vs => updA (c.setIfInBounds k v) (k + 1) vs

theorem setAt_length (cs : List AV) (k : Nat) (vs : List AV) : (setAt cs k vs).length = cs.length := by
  induction vs generalizing cs k with
  | nil => rfl
  | cons v vs ih => simp only [setAt]; rw [ih]; simp

theorem updA_size (c : Array Value) (k : Nat) (vs : List Value) : (updA c k vs).size = c.size := by
  induction vs generalizing c k with
  | nil => rfl
  | cons v vs ih => simp only [updA]; rw [ih]; simp

theorem updA_lt (c : Array Value) (k : Nat) (vs : List Value) {i : Nat} (h : i < k) : (updA c k vs)[i]? = c[i]? := by
  induction vs generalizing c k with
  | nil => rfl
  | cons v vs ih => simp only [updA]; rw [ih _ _ (by omega), Array.getElem?_setIfInBounds_ne (by omega)]

theorem updA_ge (c : Array Value) (k : Nat) (vs : List Value) {i : Nat} (h : k + vs.length ≤ i) : (updA c k vs)[i]? = c[i]? := by
  induction vs generalizing c k with
  | nil => rfl
  | cons v vs ih => simp only [List.length_cons] at h; simp only [updA]; rw [ih _ _ (by omega), Array.getElem?_setIfInBounds_ne (by omega)]

theorem updA_in (c : Array Value) (k : Nat) (vs : List Value) {i : Nat} {v : Value} (hv : vs[i]? = some v) (hs : k + vs.length ≤ c.size) : (updA c k vs)[k + i]? = some v := by
  induction vs generalizing c k i with
  | nil => simp at hv
  | cons u vs ih =>
    simp only [List.length_cons] at hs
    simp only [updA]
    cases i with
    | zero =>
      simp at hv; subst hv
      show (updA (c.setIfInBounds k u) (k + 1) vs)[k]? = some u
      rw [updA_lt _ _ _ (by omega), Array.getElem?_setIfInBounds_self_of_lt (by omega)]
    | succ i =>
      simp only [List.getElem?_cons_succ] at hv
      rw [show k + (i + 1) = k + 1 + i from by omega]
      exact ih _ _ hv (by simp; omega)

theorem setAt_lt (cs : List AV) (k : Nat) (vs : List AV) {i : Nat} (h : i < k) : (setAt cs k vs)[i]? = cs[i]? := by
  induction vs generalizing cs k with
  | nil => rfl
  | cons v vs ih => simp only [setAt]; rw [ih _ _ (by omega), List.getElem?_set_ne (by omega)]

theorem setAt_ge (cs : List AV) (k : Nat) (vs : List AV) {i : Nat} (h : k + vs.length ≤ i) : (setAt cs k vs)[i]? = cs[i]? := by
  induction vs generalizing cs k with
  | nil => rfl
  | cons v vs ih => simp only [List.length_cons] at h; simp only [setAt]; rw [ih _ _ (by omega), List.getElem?_set_ne (by omega)]

theorem setAt_in (cs : List AV) (k : Nat) (vs : List AV) {i : Nat} (hi : i < vs.length) (hs : k + vs.length ≤ cs.length) : (setAt cs k vs)[k + i]? = vs[i]? := by
  induction vs generalizing cs k i with
  | nil => simp at hi
  | cons u vs ih =>
    simp only [List.length_cons] at hs hi
    simp only [setAt]
    cases i with
    | zero => rw [setAt_lt _ _ _ (by omega), Nat.add_zero, List.getElem?_set_self (by omega)]; rfl
    | succ i =>
      rw [show k + (i + 1) = k + 1 + i from by omega, ih _ _ (by omega) (by simp; omega)]
      rfl

/-- Cells written over others. -/
theorem setAt_rel {g : Gh} {n m : Nat} {cs vs : List AV} {c : Array Value} {ws : List Value} {k : Nat} (hc : ∀ (i : Nat) a, cs[i]? = some a → ∃ v, c[m + i]? = some v ∧ VR g n a v)
    (hw : VRs g n vs ws.toArray) (hk : k + vs.length ≤ cs.length) (hcs : m + cs.length ≤ c.size) :
    ∀ (i : Nat) a, (setAt cs k vs)[i]? = some a → ∃ v, (updA c (m + k) ws)[m + i]? = some v ∧ VR g n a v := by
  have hlen : ws.length = vs.length := by have := hw.1; simpa using this
  intro i a ha
  rcases Nat.lt_or_ge i k with h | h
  · rw [setAt_lt _ _ _ h] at ha
    rw [updA_lt _ _ _ (by omega)]
    exact hc i a ha
  · rcases Nat.lt_or_ge i (k + vs.length) with h2 | h2
    · obtain ⟨j, rfl⟩ : ∃ j, i = k + j := ⟨i - k, by omega⟩
      rw [setAt_in _ _ _ (by omega) hk] at ha
      obtain ⟨v, h3, h4⟩ := hw.get ha
      refine ⟨v, ?_, h4⟩
      rw [← Nat.add_assoc]
      exact updA_in _ _ _ (by simpa using h3) (by omega)
    · rw [setAt_ge _ _ _ h2] at ha
      rw [updA_ge _ _ _ (by omega)]
      exact hc i a ha

theorem modify_eq {α : Type} (arr : Array α) (i : Nat) (f : α → α) (x : α) (h : arr[i]? = some x) : arr.modify i f = arr.setIfInBounds i (f x) := by
  apply Array.ext'
  apply List.ext_getElem?
  intro j
  simp only [Array.getElem?_toList]
  rw [Array.getElem?_modify]
  by_cases e : i = j
  · subst e
    rw [if_pos rfl, h, Array.getElem?_setIfInBounds_self_of_lt (alt_of_get h)]; rfl
  · rw [if_neg e, Array.getElem?_setIfInBounds_ne e]

theorem set_same {α : Type} (arr : Array α) (i : Nat) (x : α) (h : arr[i]? = some x) : arr.setIfInBounds i x = arr := by
  apply Array.ext'
  apply List.ext_getElem?
  intro j
  simp only [Array.getElem?_toList]
  by_cases e : i = j
  · subst e; rw [Array.getElem?_setIfInBounds_self_of_lt (alt_of_get h), h]
  · rw [Array.getElem?_setIfInBounds_ne e]

theorem run_storeCells {P : Program} (e : TypeId) (fr : Nat × Nat) (a : Addr) (hsp : a.spot = none) : ∀ (vs : List Value) (i : Nat) (w : World) (c : Array Value), w.heap[a.block]? = some (.cells c e fr) →
    (∀ v, v ∈ vs → v.oneCell' = true) → a.off + i + vs.length ≤ c.size → (∀ o, a.off + i ≤ o → o < a.off + i + vs.length → (decide (fr.1 ≤ o) && decide (o < fr.2)) = false) →
    ∃ w1, (storeCells a vs i).run P w = .ok () w1 ∧ Upd w w1 a.block (.cells (updA c (a.off + i) vs) e fr)
  | [], i, w, c, hb, _, _, _ => ⟨w, rfl, by simp only [updA]; exact (set_same _ _ _ hb).symm, rfl, rfl, rfl⟩
  | v :: vs, i, w, c, hb, hv, hs, hfr => by
    simp only [List.length_cons] at hs hfr
    have hadd : a.add i = ⟨a.block, a.off + i, none⟩ := by
      unfold Addr.add
      split
      · rename_i h0; subst h0; cases a; simp at hsp; subst hsp; rfl
      · rfl
    have hcell : w.cell? (a.add i) = some (c[a.off + i]'(by omega)) := by
      rw [hadd]; unfold World.cell?; simp only [hb]
      rw [if_neg (by simp), Array.getElem?_eq_getElem (by omega)]
    have hfz : w.frozen? (a.add i) = false := by
      rw [hadd]; unfold World.frozen?; simp only [hb]
      exact hfr _ (by omega) (by omega)
    have hset : (w.setCell (a.add i) v).heap = w.heap.setIfInBounds a.block (.cells (c.setIfInBounds (a.off + i) v) e fr) := by
      rw [hadd]; unfold World.setCell
      simp only
      rw [modify_eq _ _ _ _ hb]; rfl
    have hb1 : (w.setCell (a.add i) v).heap[a.block]? = some (.cells (c.setIfInBounds (a.off + i) v) e fr) := by
      rw [hset, Array.getElem?_setIfInBounds_self_of_lt (alt_of_get hb)]
    obtain ⟨w1, h1, h2⟩ := run_storeCells (P := P) e fr a hsp vs (i + 1) (w.setCell (a.add i) v) _ hb1 (fun u hu => hv u (List.mem_cons_of_mem _ hu)) (by simp; omega) (fun o h3 h4 => hfr o (by omega) (by omega))
    refine ⟨w1, ?_, ?_, ?_, ?_, ?_⟩
    · simp only [storeCells, Sem.run_bind, run_store P w _ v .plain (hv v List.mem_cons_self), hcell, hfz, Bool.false_eq_true, if_false, Result.andThen_ok]
      exact h1
    · rw [h2.heap, hset, Array.setIfInBounds_setIfInBounds]; rfl
    · rw [h2.os]; rfl
    · rw [h2.tape]; rfl
    · rw [h2.output]; rfl

/-! ### the operations -/

section
variable {P : Program} {fr : Frm} {H : Mem} {K : AV → Mem → Prop} {dst : Option Nat} {ty : TypeId} {pos : String} {after : Array Edge} {guard : Option (Nat × Bool)}

theorem opS_move {x : Operand} (h : K (aev fr x) H) : OpS P ⟨dst, .move x, ty, pos, after, guard⟩ fr H K := fun _ _ ev hop hm => by
  have hx := hop x (by simp [Op.operands])
  simp only [execOp]
  exact sr_here hm hx h

theorem opS_assign {x : Operand} (h : K (aev fr x) H) : OpS P ⟨dst, .assign x, ty, pos, after, guard⟩ fr H K := fun _ _ ev hop hm => by
  have hx := hop x (by simp [Op.operands])
  simp only [execOp]
  exact sr_here hm hx h

theorem opS_pick {c x y : Operand} {b : Bool} (hc : aev fr c = .sc (.bool b)) (h : K (if b then aev fr x else aev fr y) H) : OpS P ⟨dst, .pick c x y, ty, pos, after, guard⟩ fr H K := fun _ w ev hop hm => by
  have h1 := hop c (by simp [Op.operands])
  have h2 := hop x (by simp [Op.operands])
  have h3 := hop y (by simp [Op.operands])
  rw [hc] at h1
  have e := VR_sc h1
  cases b
  · have : (execOp ev ⟨dst, .pick c x y, ty, pos, after, guard⟩).run P w = .ok (.value (ev y)) w := by simp [execOp, asBool, e]
    rw [this]; exact sr_here hm h3 h
  · have : (execOp ev ⟨dst, .pick c x y, ty, pos, after, guard⟩).run P w = .ok (.value (ev x)) w := by simp [execOp, asBool, e]
    rw [this]; exact sr_here hm h2 h

/-- A new variable. -/
theorem new_cells {g : Gh} {w : World} (hm : MR g H w) {c : Array Value} {e : TypeId} {acs : List AV} (hv : VRs g H.length acs c) (h : K (.pt H.length 0) (H ++ [.cells acs])) :
    Ls P (SR H.length g w K) (.ok (.value (.pointer (some ⟨w.heap.size, 0, none⟩))) (w.alloc (.cells c e))) := by
  have hp : Push w (w.alloc (.cells c e)) c e (0, 0) := ⟨rfl, rfl, rfl, rfl⟩
  obtain ⟨h1, h2⟩ := hm.push_cells hp (fun o _ => by simp) (Nat.le_of_eq hv.1.symm) (fun i a ha => hv.get ha)
  refine ⟨_, _, _, h, ?_, h1, h2, by simp⟩
  have := VR.pt (g := g.addE H.length ⟨w.heap.size, 0, c.size⟩) (n := (H ++ [Ent.cells acs]).length) H.length 0 (by simp)
  simpa [Gh.addE] using this

def zeroCs (z : Value) : List AV := z.cells.toList.map AV.sc

theorem VRs_zero {g : Gh} {n : Nat} (z : Value) : VRs g n (zeroCs z) z.cells := by
  refine ⟨by simp [zeroCs], fun i a ha => ?_⟩
  unfold zeroCs at ha
  rw [List.getElem?_map] at ha
  cases hx : z.cells.toList[i]? with
  | none => rw [hx] at ha; cases ha
  | some v =>
    rw [hx] at ha
    simp only [Option.map_some, Option.some.injEq] at ha
    subst ha
    rw [Array.getElem?_toList] at hx
    rw [Array.getD_eq_getD_getElem?, hx]
    exact .sc v

theorem opS_alloc {t : TypeId} {s b : Nat} {z : Value} (ht : tinf P t = some (s, b, some z)) (h : K (.pt H.length 0) (H ++ [.cells (zeroCs z)])) : OpS P ⟨dst, .alloc t, ty, pos, after, guard⟩ fr H K := fun _ w ev _ hm => by
  have : (execOp ev ⟨dst, .alloc t, ty, pos, after, guard⟩).run P w = .ok (.value (.pointer (some ⟨w.heap.size, 0, none⟩))) (w.alloc (.cells z.cells t)) := by
    simp only [execOp, Instr.alloc, Sem.run_bind, run_zeroValue ht, Result.andThen_ok, newVar, newRow, run_newObj]; rfl
  rw [this]
  exact new_cells hm (VRs_zero z) h

theorem opS_box {t : TypeId} {x : Operand} (hf : (aev fr x).flat = true) (h : K (.pt H.length 0) (H ++ [.cells (aev fr x).cells])) : OpS P ⟨dst, .box t x, ty, pos, after, guard⟩ fr H K := fun _ w ev hop hm => by
  have hx := hop x (by simp [Op.operands])
  have : (execOp ev ⟨dst, .box t x, ty, pos, after, guard⟩).run P w = .ok (.value (.pointer (some ⟨w.heap.size, 0, none⟩))) (w.alloc (.cells (ev x).cells t)) := by
    simp only [execOp, Instr.box, Sem.run_bind, newVar, newRow, run_newObj]; rfl
  rw [this]
  exact new_cells hm (hx.cells hf) h

/-! loads -/

def aLoad (P : Program) (t : TypeId) (a : AV) (H : Mem) (K : AV → Mem → Prop) : Prop :=
  match aggT P t, tinf P t with
  | some false, some _ =>
    match a with
    | .pt id off => (match H[id]? with | some (.cells cs) => (match cs[off]? with | some c => K c H | none => False) | _ => False)
    | .ep (p :: _) => K p.av H
    | _ => False
  | some true, some (sz, _, _) =>
    match a with
    | .pt id off => (match H[id]? with | some (.cells cs) => off + sz ≤ cs.length ∧ K (.ag ((cs.drop off).take sz)) H | _ => False)
    | .ep cs => sz ≤ cs.length ∧ K (.ag ((cs.take sz).map PV.av)) H
    | _ => False
  | _, _ => False

theorem add_plain {a : Addr} (h : a.spot = none) (n : Nat) : a.add n = ⟨a.block, a.off + n, none⟩ := by
  unfold Addr.add
  split
  · rename_i h0; subst h0; cases a; simp at h; subst h; rfl
  · rfl

theorem run_loadAgg {t : TypeId} {sz b : Nat} {z : Option Value} (ha : aggT P t = some true) (ht : tinf P t = some (sz, b, z)) {w : World} {a : Addr} {f : Nat → Value}
    (hc : ∀ j, j < sz → w.cell? (a.add j) = some (f j)) : (loadVar t a).run P w = .ok (.agg ((List.range sz).map f).toArray) w := by
  simp only [loadVar, Sem.run_bind, run_isAgg ha, Result.andThen_ok, if_true, run_sizeOf ht, run_loadCells w a sz f hc, Sem.run_pure]

theorem run_loadOne {t : TypeId} (ha : aggT P t = some false) {w : World} {a : Addr} {v : Value} (hc : w.cell? a = some v) : (loadVar t a).run P w = .ok v w := by
  simp only [loadVar, Sem.run_bind, run_isAgg ha, Result.andThen_ok, Bool.false_eq_true, if_false, run_load, hc]

theorem loadVar_sound {g : Gh} {w : World} {t : TypeId} {a : AV} {v : Value} (hm : MR g H w) (hv : VR g H.length a v) (h : aLoad P t a H K) :
    ∃ ad, v = .pointer (some ad) ∧ ∃ u, (loadVar t ad).run P w = .ok u w ∧ ∃ r, K r H ∧ VR g H.length r u := by
  unfold aLoad at h
  cases hag : aggT P t with
  | none => rw [hag] at h; exact h.elim
  | some ag =>
    cases hti : tinf P t with
    | none => rw [hag, hti] at h; cases ag <;> exact h.elim
    | some x =>
      obtain ⟨sz, by_, z⟩ := x
      rw [hag, hti] at h
      cases ag with
      | false =>
        cases hv with
        | pt id off hid =>
          simp only at h
          cases he : H[id]? with
          | none => rw [he] at h; exact h.elim
          | some e =>
            rw [he] at h
            cases e with
            | cells cs =>
              simp only at h
              cases hc : cs[off]? with
              | none => rw [hc] at h; exact h.elim
              | some c =>
                rw [hc] at h
                obtain ⟨u, h1, h2⟩ := hm.cellAt he off c hc
                exact ⟨_, rfl, u, run_loadOne hag h1, c, h, h2⟩
            | _ => exact h.elim
        | ep cs ad f hsp hrow =>
          cases cs with
          | nil => exact h.elim
          | cons p ps =>
            have := hrow 0 p rfl
            refine ⟨ad, rfl, f 0, run_loadOne hag ?_, p.av, h, VR.of_PR this.2⟩
            have h2 := hm.ro _ _ _ this.1
            rw [← h2]; cases ad; simp at hsp; subst hsp; rfl
        | _ => exact h.elim
      | true =>
        cases hv with
        | pt id off hid =>
          simp only at h
          cases he : H[id]? with
          | none => rw [he] at h; exact h.elim
          | some e =>
            rw [he] at h
            cases e with
            | cells cs =>
              simp only at h
              obtain ⟨hl, hk⟩ := h
              have hent := hm.cellAt he
              have hcell : ∀ j, j < sz → ∃ v, w.cell? ⟨(g.mu id).b, (g.mu id).o + (off + j), none⟩ = some v ∧ VR g H.length (cs.getD (off + j) .any) v := fun j hj => by
                obtain ⟨v, h1, h2⟩ := hent (off + j) (cs[off + j]'(by omega)) (List.getElem?_eq_getElem (by omega))
                exact ⟨v, h1, by simpa [List.getD, List.getElem?_eq_getElem (show off + j < cs.length by omega)] using h2⟩
              let f : Nat → Value := fun j => if hj : j < sz then Classical.choose (hcell j hj) else undef
              have hf : ∀ j (hj : j < sz), w.cell? ⟨(g.mu id).b, (g.mu id).o + (off + j), none⟩ = some (f j) ∧ VR g H.length (cs.getD (off + j) .any) (f j) := fun j hj => by
                simp only [f]; rw [dif_pos hj]; exact Classical.choose_spec (hcell j hj)
              refine ⟨_, rfl, _, run_loadAgg hag hti (f := f) (fun j hj => ?_), _, hk, .ag _ _ (by simp; omega) (fun i c hc => ?_)⟩
              · rw [add_plain rfl]; simp only; rw [Nat.add_assoc]; exact (hf j hj).1
              · have hi : i < sz := by have := lt_of_get hc; simp at this; omega
                have := (hf i hi).2
                rw [List.getElem?_take_of_lt hi, List.getElem?_drop] at hc
                simp only [List.getD, hc, Option.getD_some] at this
                simpa [Array.getD_eq_getD_getElem?, hi] using this
            | _ => exact h.elim
        | ep cs ad f hsp hrow =>
          obtain ⟨hl, hk⟩ := h
          refine ⟨ad, rfl, _, run_loadAgg hag hti (f := f) (fun j hj => ?_), _, hk, .ag _ _ (by simp; omega) (fun i c hc => ?_)⟩
          · rw [add_plain hsp]
            exact hm.ro _ _ _ (hrow j (cs[j]'(by omega)) (List.getElem?_eq_getElem (by omega))).1
          · have hi : i < sz := by have := lt_of_get hc; simp at this; omega
            rw [List.getElem?_map, List.getElem?_take_of_lt hi, List.getElem?_eq_getElem (show i < cs.length by omega)] at hc
            simp only [Option.map_some, Option.some.injEq] at hc
            subst hc
            have := VR.of_PR (n := H.length) (hrow i _ (List.getElem?_eq_getElem (show i < cs.length by omega))).2
            simpa [Array.getD_eq_getD_getElem?, hi] using this
        | _ => exact h.elim

theorem opS_load {t : TypeId} {x : Operand} (h : aLoad P t (aev fr x) H K) : OpS P ⟨dst, .load t x, ty, pos, after, guard⟩ fr H K := fun g w ev hop hm => by
  have hx := hop x (by simp [Op.operands])
  obtain ⟨ad, e, u, hr, r, hk, hv⟩ := loadVar_sound hm hx h
  have : (execOp ev ⟨dst, .load t x, ty, pos, after, guard⟩).run P w = .ok (.value u) w := by
    simp only [execOp, Instr.loadAt, e, Instr.sureAddr, Sem.run_bind, Sem.run_pure, Result.andThen_ok, hr]
  rw [this]
  exact sr_here hm hv hk

/-! stores -/

def aStore (P : Program) (t : TypeId) (a v : AV) (H : Mem) (K : AV → Mem → Prop) : Prop :=
  match tinf P t with
  | some (sz, _, _) =>
    (match a with
    | .pt id off => (match H[id]? with
      | some (.cells cs) => sz ≠ 0 ∧ v.flat = true ∧ v.cells.length = sz ∧ v.cells.all AV.cellish = true ∧ off + sz ≤ cs.length ∧ K undefA (H.set id (.cells (setAt cs off v.cells)))
      | _ => False)
    | _ => False)
  | none => False

theorem oneCells {g : Gh} {n : Nat} {acs : List AV} {c : Array Value} (h : VRs g n acs c) (ha : acs.all AV.cellish = true) : ∀ v, v ∈ c.toList → v.oneCell' = true := by
  intro v hv
  obtain ⟨i, hi⟩ := List.getElem?_of_mem hv
  rw [Array.getElem?_toList] at hi
  have hl := alt_of_get hi
  have hs := h.1
  have hx := h.2 i (acs[i]'(by omega)) (List.getElem?_eq_getElem (by omega))
  rw [Array.getD_eq_getD_getElem?, hi] at hx
  exact hx.cellish (List.all_eq_true.1 ha _ (List.getElem_mem _))

theorem opS_store {t : TypeId} {x y : Operand} (h : aStore P t (aev fr x) (aev fr y) H K) : OpS P ⟨dst, .store t x y, ty, pos, after, guard⟩ fr H K := fun g w ev hop hm => by
  have hx := hop x (by simp [Op.operands])
  have hy := hop y (by simp [Op.operands])
  unfold aStore at h
  cases hti : tinf P t with
  | none => rw [hti] at h; exact h.elim
  | some q =>
    obtain ⟨sz, by_, z⟩ := q
    rw [hti] at h
    generalize haev : aev fr x = ax at *
    generalize aev fr y = ay at *
    cases ax with
    | pt id off =>
      simp only at h
      cases he : H[id]? with
      | none => rw [he] at h; exact h.elim
      | some e =>
        rw [he] at h
        cases e with
        | cells cs =>
          obtain ⟨hsz0, hf, hlen, hcel, hoff, hk⟩ := h
          have hne0 : cs ≠ [] := fun e => by rw [e] at hoff; simp at hoff; omega
          have hcells := hy.cells hf
          have hsz : (ev y).cells.size = sz := hcells.1.trans hlen
          obtain ⟨h1, h2, h3, h4, h5⟩ := hm.owned he (.inl hne0)
          obtain ⟨c, el, frz, hb, hl, hfr⟩ := h2
          generalize hvx : ev x = vx at *
          cases hx with
          | pt _ _ hid =>
            have hlist : (ev y).cells.toList.length = sz := by simpa using hsz
            obtain ⟨w1, hr, hu⟩ := run_storeCells (P := P) el frz ⟨(g.mu id).b, (g.mu id).o + off, none⟩ rfl (ev y).cells.toList 0 w c hb (oneCells hcells hcel) (by simp only [hlist]; omega) (fun o a1 a2 => hfr o (by simp only [hlist] at a2; omega))
            have : (execOp ev ⟨dst, .store t x y, ty, pos, after, guard⟩).run P w = .ok .skip w1 := by
              simp only [execOp, Instr.storeAt, hvx, Instr.sureAddr, Sem.run_bind, Sem.run_pure, Result.andThen_ok, storeVar, run_sizeOf hti, hsz, ne_eq, not_true_eq_false, if_false, Sem.run_ite, hr]
            rw [this]
            obtain ⟨m1, m2⟩ := hm.put (cs' := setAt cs off ay.cells) he hne0 hb hu (updA_size _ _ _) (setAt_length _ _ _) (by
              simp only [Nat.add_zero]
              exact setAt_rel (m := (g.mu id).o) (fun i a ha => by
                obtain ⟨v, q1, q2⟩ := h5 i a ha
                refine ⟨v, ?_, q2⟩
                unfold World.cell? at q1; simp only [hb] at q1; rw [if_neg (by simp)] at q1; exact q1) (by simpa using hcells) (by omega) (by omega))
            exact ⟨_, _, g, hk, .sc _, m1, m2, by simp⟩
        | _ => exact h.elim
    | _ => exact h.elim

end
end Go.Proofs.Yteclchefihcjkaa.Am
