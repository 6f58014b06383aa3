/- Operations: addresses of fields and elements, tests, arithmetic, slices of slices, lengths, tuples, function values, calls. -/
import Derived.Test.YteclchefihcjkaaM3
namespace Go.Proofs.Yteclchefihcjkaa.Am
open Go

section
variable {P : Program} {fr : Frm} {H : Mem} {K : AV → Mem → Prop} {dst : Option Nat} {ty : TypeId} {pos : String} {after : Array Edge} {guard : Option (Nat × Bool)}

theorem Row.drop {ro : Nat → Nat → Option Value} {b o : Nat} {ps : List PV} {f : Nat → Value} (h : Row ro b o ps f) (k : Nat) : Row ro b (o + k) (ps.drop k) (fun j => f (k + j)) := fun j p hj => by
  rw [List.getElem?_drop] at hj
  have := h _ _ hj
  rw [Nat.add_assoc]; exact this

theorem Row.take {ro : Nat → Nat → Option Value} {b o : Nat} {ps : List PV} {f : Nat → Value} (h : Row ro b o ps f) (k : Nat) : Row ro b o (ps.take k) f := fun j p hj => by
  have hl := lt_of_get hj
  simp at hl
  rw [List.getElem?_take_of_lt (by omega)] at hj
  exact h j p hj

theorem flatten_length {α : Type} {es : List (List α)} {z : Nat} (h : ∀ e, e ∈ es → e.length = z) : es.flatten.length = es.length * z := by
  induction es with
  | nil => simp
  | cons e es ih =>
    rw [List.flatten_cons, List.length_append, ih (fun x hx => h x (List.mem_cons_of_mem _ hx)), h e List.mem_cons_self, List.length_cons, Nat.succ_mul]
    omega

theorem flatten_drop {α : Type} {es : List (List α)} {z : Nat} (h : ∀ e, e ∈ es → e.length = z) (k : Nat) : (es.drop k).flatten = es.flatten.drop (k * z) := by
  induction es generalizing k with
  | nil => simp
  | cons e es ih =>
    cases k with
    | zero => simp
    | succ k =>
      have he := h e List.mem_cons_self
      rw [List.drop_succ_cons, ih (fun x hx => h x (List.mem_cons_of_mem _ hx)), List.flatten_cons, Nat.succ_mul, Nat.add_comm (k * z) z, ← he, List.drop_length_add_append]

theorem flatten_take {α : Type} {es : List (List α)} {z : Nat} (h : ∀ e, e ∈ es → e.length = z) (k : Nat) : (es.take k).flatten = es.flatten.take (k * z) := by
  induction es generalizing k with
  | nil => simp
  | cons e es ih =>
    cases k with
    | zero => simp
    | succ k =>
      have he := h e List.mem_cons_self
      rw [List.take_succ_cons, List.flatten_cons, ih (fun x hx => h x (List.mem_cons_of_mem _ hx)), List.flatten_cons, Nat.succ_mul, Nat.add_comm (k * z) z, ← he, List.take_length_add_append]

theorem flatten_at {α : Type} {es : List (List α)} {z : Nat} (h : ∀ e, e ∈ es → e.length = z) {i : Nat} {e : List α} (hi : es[i]? = some e) : e = (es.flatten.drop (i * z)).take z := by
  have hl := lt_of_get hi
  have : es.drop i = e :: es.drop (i + 1) := by
    rw [List.drop_eq_getElem_cons hl]
    rw [List.getElem?_eq_getElem hl] at hi
    simp at hi
    rw [hi]
  rw [← flatten_drop h, this, List.flatten_cons, List.take_append_of_le_length (by rw [h e (List.mem_of_getElem? hi)]; omega), List.take_of_length_le (by rw [h e (List.mem_of_getElem? hi)]; omega)]

/-! fields -/

def aFieldAddr (P : Program) (s : TypeId) (a : AV) (i : Nat) (H : Mem) (K : AV → Mem → Prop) : Prop :=
  match P.underlying s with
  | some (.struct fs) =>
    (match fs[i]? with
    | some f =>
      (match tinf P f.type with
      | some (sz, _, _) => sz ≠ 0 ∧ (match a with
        | .pt id off => K (.pt id (off + f.offset)) H
        | .ep cs => K (.ep (cs.drop f.offset)) H
        | _ => False)
      | none => False)
    | none => False)
  | _ => False

theorem opS_fieldAddr {s : TypeId} {x : Operand} {i : Nat} (h : aFieldAddr P s (aev fr x) i H K) : OpS P ⟨dst, .fieldAddr s x i, ty, pos, after, guard⟩ fr H K := fun g w ev hop hm => by
  have hx := hop x (by simp [Op.operands])
  unfold aFieldAddr at h
  split at h
  · rename_i fs hs
    cases hf : fs[i]? with
    | none => rw [hf] at h; exact h.elim
    | some f =>
      rw [hf] at h
      cases hti : tinf P f.type with
      | none => simp only [hti] at h
      | some q =>
        obtain ⟨sz, by_, z⟩ := q
        simp only [hti] at h
        obtain ⟨hz, h⟩ := h
        have run : ∀ ad : Addr, ev x = .pointer (some ad) → ad.spot = none → (execOp ev ⟨dst, .fieldAddr s x i, ty, pos, after, guard⟩).run P w = .ok (.value (.pointer (some ⟨ad.block, ad.off + f.offset, none⟩))) w := fun ad e hsp => by
          simp only [execOp, Instr.fieldAt, Sem.run_bind, run_underlying hs, Result.andThen_ok, hf, e, Instr.sureAddr, Sem.run_pure, fieldPlace, run_sizeOf hti, hz, if_false, Sem.run_ite]
          rw [add_plain hsp]
        generalize aev fr x = ax at *
        generalize hvx : ev x = vx at *
        cases hx with
        | pt id off hid =>
          rw [run _ rfl rfl]
          refine sr_here hm ?_ h
          have := VR.pt (g := g) id (off + f.offset) hid
          rw [← Nat.add_assoc] at this
          exact this
        | ep cs ad ff hsp hrow =>
          rw [run _ rfl hsp]
          exact sr_here hm (.ep _ ⟨ad.block, ad.off + f.offset, none⟩ _ rfl (hrow.drop f.offset)) h
        | _ => exact h.elim
  · exact h.elim

/-! elements -/

def aIndexAddr (P : Program) (t : TypeId) (a i : AV) (H : Mem) (K : AV → Mem → Prop) : Prop :=
  match P.underlying t, i with
  | some (.slice e), .sc (.int _ i) =>
    (match tinf P e with
    | some (sz, _, _) =>
      (match a with
      | .sl z es _ => z = sz ∧ 0 ≤ i ∧ (match es[i.toNat]? with | some e => K (.ep e) H | none => False)
      | .hs id off len _ s => s = sz ∧ 0 ≤ i ∧ i < len ∧ K (.pt id (off + i.toNat * sz)) H
      | _ => False)
    | none => False)
  | some (.array n e), .sc (.int _ i) =>
    (match tinf P e with
    | some (sz, _, _) => 0 ≤ i ∧ i < n ∧
      (match a with
      | .pt id off => K (.pt id (off + i.toNat * sz)) H
      | .ep cs => K (.ep (cs.drop (i.toNat * sz))) H
      | _ => False)
    | none => False)
  | _, _ => False

theorem opS_indexAddr {t : TypeId} {x y : Operand} (h : aIndexAddr P t (aev fr x) (aev fr y) H K) : OpS P ⟨dst, .indexAddr t x y, ty, pos, after, guard⟩ fr H K := fun g w ev hop hm => by
  have hx := hop x (by simp [Op.operands])
  have hy := hop y (by simp [Op.operands])
  unfold aIndexAddr at h
  split at h
  · rename_i e k i hs hi
    rw [hi] at hy
    have ey := VR_sc hy
    cases hti : tinf P e with
    | none => rw [hti] at h; exact h.elim
    | some q =>
      obtain ⟨sz, by_, zz⟩ := q
      rw [hti] at h
      have run : ∀ (ad : Addr) (len cap : Nat), ev x = .slice (some ad) len cap → ad.spot = none → 0 ≤ i → i < len →
          (execOp ev ⟨dst, .indexAddr t x y, ty, pos, after, guard⟩).run P w = .ok (.value (.pointer (some ⟨ad.block, ad.off + i.toNat * sz, none⟩))) w := fun ad len cap ex hsp h0 h1 => by
        simp only [execOp, Instr.indexAt, Sem.run_bind, ex, ey, asIntOf, Sem.run_pure, Result.andThen_ok, run_underlying hs, run_sizeOf hti, Sem.run_ite]
        rw [if_pos ⟨h0, h1⟩, add_plain hsp]
        rfl
      generalize aev fr x = ax at *
      generalize hvx : ev x = vx at *
      cases hx with
      | nil z => obtain ⟨_, _, h⟩ := h; exact h.elim
      | sl z es kk ad cap f hsp hcap hz hrow hk =>
        obtain ⟨rfl, h0, h⟩ := h
        cases hes : es[i.toNat]? with
        | none => rw [hes] at h; exact h.elim
        | some el =>
          rw [hes] at h
          have hlt := lt_of_get hes
          rw [run _ _ _ rfl (hsp.resolve_left (by omega)) h0 (by omega)]
          refine sr_here hm (.ep _ ⟨ad.block, ad.off + i.toNat * z, none⟩ (fun j => f (i.toNat * z + j)) rfl ?_) h
          rw [flatten_at hz hes]
          exact (hrow.drop _).take _
      | hs id off len mc s cap hid hl hmc hcap =>
        obtain ⟨rfl, h0, h1, h⟩ := h
        rw [run _ _ _ rfl rfl h0 h1]
        refine sr_here hm ?_ h
        have := VR.pt (g := g) id (off + i.toNat * s) hid
        rw [← Nat.add_assoc] at this
        exact this
      | hn id off s a hid => obtain ⟨_, h0, h1, _⟩ := h; omega
      | _ => exact h.elim
  · rename_i m e k i hs hi
    rw [hi] at hy
    have ey := VR_sc hy
    cases hti : tinf P e with
    | none => rw [hti] at h; exact h.elim
    | some q =>
      obtain ⟨sz, by_, zz⟩ := q
      rw [hti] at h
      obtain ⟨h0, h1, h⟩ := h
      have run : ∀ (ad : Addr), ev x = .pointer (some ad) → ad.spot = none →
          (execOp ev ⟨dst, .indexAddr t x y, ty, pos, after, guard⟩).run P w = .ok (.value (.pointer (some ⟨ad.block, ad.off + i.toNat * sz, none⟩))) w := fun ad ex hsp => by
        simp only [execOp, Instr.indexAt, Sem.run_bind, ex, ey, asIntOf, Sem.run_pure, Result.andThen_ok, run_underlying hs, Instr.sureAddr, run_sizeOf hti, Sem.run_ite]
        rw [if_pos ⟨h0, h1⟩, add_plain hsp]
        rfl
      generalize aev fr x = ax at *
      generalize hvx : ev x = vx at *
      cases hx with
      | pt id off hid =>
        rw [run _ rfl rfl]
        refine sr_here hm ?_ h
        have := VR.pt (g := g) id (off + i.toNat * sz) hid
        rw [← Nat.add_assoc] at this
        exact this
      | ep cs ad f hsp hrow =>
        rw [run _ rfl hsp]
        exact sr_here hm (.ep _ ⟨ad.block, ad.off + i.toNat * sz, none⟩ _ rfl (hrow.drop _)) h
      | _ => exact h.elim
  · exact h.elim

/-! tuples, nil checks, function values -/

theorem opS_extract {x : Operand} {i : Nat} {vs : List AV} {a : AV} (hx : aev fr x = .tp vs) (ha : vs[i]? = some a) (h : K a H) : OpS P ⟨dst, .extract x i, ty, pos, after, guard⟩ fr H K := fun g w ev hop hm => by
  have hx' := hop x (by simp [Op.operands])
  rw [hx] at hx'
  generalize hvx : ev x = vx at *
  cases hx' with
  | tp _ us hs hv =>
    obtain ⟨u, h1, h2⟩ := VRs.get (g := g) (n := H.length) ⟨hs, hv⟩ ha
    have : (execOp ev ⟨dst, .extract x i, ty, pos, after, guard⟩).run P w = .ok (.value u) w := by
      simp only [execOp, Instr.extract, hvx, h1, Sem.run_bind, Sem.run_pure, Result.andThen_ok]
    rw [this]
    exact sr_here hm h2 h

def AV.there : AV → Bool
  | .pt _ _ | .ep _ => true
  | .fn (.func _) _ _ => true
  | _ => false

theorem opS_nilCheck {x : Operand} (ht : (aev fr x).there = true) (h : K (aev fr x) H) : OpS P ⟨dst, .nilCheck x, ty, pos, after, guard⟩ fr H K := fun g w ev hop hm => by
  have hx := hop x (by simp [Op.operands])
  generalize aev fr x = ax at *
  have : (execOp ev ⟨dst, .nilCheck x, ty, pos, after, guard⟩).run P w = .ok (.value (ev x)) w := by
    simp only [execOp]
    generalize ev x = vx at *
    cases hx with
    | pt => rfl
    | ep => rfl
    | fn f => cases f <;> first | rfl | cases ht
    | _ => cases ht
  rw [this]
  exact sr_here hm hx h

/-! calls -/

theorem run_callFunc {f : FuncId} (hc : callable P f = true) (args : Array Value) (w : World) : (callFunc f args).run P w = .ok (.enter f args) w := by
  unfold callable at hc
  cases hf : P.funcs[f]? with
  | none => rw [hf] at hc; cases hc
  | some fn =>
    rw [hf] at hc
    simp only [Bool.and_eq_true, bne_iff_ne, ne_eq] at hc
    have h3 : ¬ fn.body = none := by cases hb : fn.body <;> simp_all
    simp [callFunc, hf, hc.2, h3]

theorem vrs_args {g : Gh} {n : Nat} {ev : Operand → Value} {xs : Array Operand} (h : ∀ x, x ∈ xs → VR g n (aev fr x) (ev x)) : VRs g n (xs.toList.map (aev fr)) (xs.map ev) := by
  refine ⟨by simp, fun i c hc => ?_⟩
  rw [List.getElem?_map, Array.getElem?_toList] at hc
  cases hf : xs[i]? with
  | none => rw [hf] at hc; cases hc
  | some x =>
    rw [hf] at hc; simp only [Option.map_some, Option.some.injEq] at hc; subst hc
    rw [Array.getD_eq_getD_getElem?, Array.getElem?_map, hf]
    exact h x (Array.mem_of_getElem? hf)

theorem opS_call {f : FuncId} {xs : Array Operand} {ats : Array TypeId} (h : ACalls P f (xs.toList.map (aev fr)) H K) : OpS P ⟨dst, .call ⟨.value (.func f), xs, ats⟩, ty, pos, after, guard⟩ fr H K := fun g w ev hop hm => by
  have hf := hop (.func f) (by simp [Op.operands, Call.operands])
  have hargs := vrs_args (fr := fr) (xs := xs) (ev := ev) (g := g) (n := H.length) fun x hx => hop x (by simp only [Op.operands, Call.operands, Array.mem_append]; exact .inr hx)
  have hev : ev (.func f) = .func (.func f) #[] #[] := by
    have : VR g H.length (.fn (.func f) [] []) (ev (.func f)) := hf
    generalize ev (.func f) = vf at this
    cases this with
    | fn _ _ _ vf vc h1 h2 _ _ => rw [Array.eq_empty_of_size_eq_zero h1, Array.eq_empty_of_size_eq_zero h2]
  have : (execOp ev ⟨dst, .call ⟨.value (.func f), xs, ats⟩, ty, pos, after, guard⟩).run P w = .ok (.enter f (xs.map ev)) w := by
    simp only [execOp, resolve, hev, Deferred.ofValue, Sem.run_bind, Sem.run_pure, Result.andThen_ok, invoke, Array.append_empty, Array.empty_append, run_callFunc h.1]
  rw [this]
  exact h.2 g w _ hm hargs.1 hargs.2

theorem VRs.append {g : Gh} {n : Nat} {as bs : List AV} {a b : Array Value} (ha : VRs g n as a) (hb : VRs g n bs b) : VRs g n (as ++ bs) (a ++ b) := by
  refine ⟨by simp [ha.1, hb.1], fun i c hc => ?_⟩
  rw [Array.getD_eq_getD_getElem?]
  rcases Nat.lt_or_ge i as.length with h | h
  · rw [List.getElem?_append_left h] at hc
    have := ha.2 i c hc
    rw [Array.getD_eq_getD_getElem?] at this
    rw [Array.getElem?_append_left (by rw [ha.1]; exact h)]; exact this
  · rw [List.getElem?_append_right h] at hc
    have := hb.2 _ c hc
    rw [Array.getD_eq_getD_getElem?] at this
    rw [Array.getElem?_append_right (by rw [ha.1]; exact h), ha.1]; exact this

end
end Go.Proofs.Yteclchefihcjkaa.Am
