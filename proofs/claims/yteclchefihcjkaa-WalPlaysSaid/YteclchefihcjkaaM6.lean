/- Operations: slices of slices, composite values, made slices, appends, copies, bytes of a text. -/
import Derived.Test.YteclchefihcjkaaM5
namespace Go.Proofs.Yteclchefihcjkaa.Am
open Go

section
variable {P : Program} {fr : Frm} {H : Mem} {K : AV → Mem → Prop} {dst : Option Nat} {ty : TypeId} {pos : String} {after : Array Edge} {guard : Option (Nat × Bool)}

/-- A bound that is given, or isn't. -/
def bnd (fr : Frm) : Option Operand → Option (Option (IntKind × Int))
  | none => some none
  | some x => match aev fr x with | .sc (.int k n) => some (some (k, n)) | _ => none

theorem bnd_spec {g : Gh} {n : Nat} {ev : Operand → Value} {o : Option Operand} {r : Option (IntKind × Int)} (h : bnd fr o = some r) (hv : ∀ x, o = some x → VR g n (aev fr x) (ev x)) :
    o.map ev = r.map fun p => Value.int p.1 p.2 := by
  cases o with
  | none => simp [bnd] at h; subst h; rfl
  | some x =>
    simp only [bnd] at h
    split at h
    · rename_i k m e
      simp at h; subst h
      have := hv x rfl
      rw [e] at this
      simp [VR_sc this]
    · cases h

def bd0 (r : Option (IntKind × Int)) (d : Int) : Int := match r with | some p => p.2 | none => d

theorem run_bounds {isSl : Bool} {len cap : Nat} {lo hi mx : Option (IntKind × Int)} (hm : mx.isSome = true → hi.isSome = true) (h0 : 0 ≤ bd0 lo 0) (h1 : bd0 lo 0 ≤ bd0 hi len) (h2 : bd0 hi len ≤ bd0 mx cap) (h3 : bd0 mx cap ≤ cap) (w : World) :
    (Instr.sliceBounds isSl len cap (lo.map fun p => Value.int p.1 p.2) (hi.map fun p => Value.int p.1 p.2) (mx.map fun p => Value.int p.1 p.2)).run P w = .ok ((bd0 lo 0).toNat, (bd0 hi len).toNat, (bd0 mx cap).toNat) w := by
  cases lo <;> cases hi <;> cases mx <;> simp only [bd0] at h0 h1 h2 h3 <;> simp only [Option.isSome, reduceCtorEq, imp_false, not_true_eq_false, true_implies] at hm <;>
    simp only [Instr.sliceBounds, bd0, Option.map_some, Option.map_none, Sem.run_bind, Sem.run_pure, Result.andThen_ok, Option.isSome_none, Option.isSome_some] <;>
    repeat (rw [run_sliceBound _ _ _ _ _ (by omega) (by omega)]; simp only [Result.andThen_ok])
  all_goals simp

def Tk.cut : Tk → Tk
  | .ex => .ex
  | _ => .no
/-- What is known behind the end of a slice's slice. -/
def tkCut (k : Tk) (b : Bool) : Tk := if b then .no else k.cut
theorem tkCut_tk {k : Tk} {b : Bool} {t : Nat} (h : tkCut k b = .tk t) : False := by
  unfold tkCut at h
  split at h
  · cases h
  · cases k <;> cases h

/-- The same, its room told, too. -/
def tkS (k : Tk) (hi mx : Option (IntKind × Int)) (d : Int) : Tk :=
  match mx with
  | none => tkCut k hi.isSome
  | some q => if bd0 hi d = q.2 then .ex else .no
theorem tkS_tk {k : Tk} {hi mx : Option (IntKind × Int)} {d : Int} {t : Nat} (h : tkS k hi mx d = .tk t) : False := by
  unfold tkS at h
  split at h
  · exact tkCut_tk h
  · split at h <;> cases h

def aSlice (P : Program) (t : TypeId) (x : AV) (lo hi mx : Option (IntKind × Int)) (H : Mem) (K : AV → Mem → Prop) : Prop :=
  (mx.isSome = true → hi.isSome = true) ∧
  match P.underlying t with
  | some (.slice e) =>
    (match tinf P e with
    | some (sz, _, _) =>
      (match x with
      | .sl z es k => z = sz ∧ 0 ≤ bd0 lo 0 ∧ bd0 lo 0 ≤ bd0 hi es.length ∧ bd0 hi es.length ≤ bd0 mx es.length ∧ bd0 mx es.length ≤ es.length ∧
          K (.sl z ((es.take (bd0 hi es.length).toNat).drop (bd0 lo 0).toNat) (tkS k hi mx es.length)) H
      | .hs id off len mc s => s = sz ∧ 0 ≤ bd0 lo 0 ∧ bd0 lo 0 ≤ bd0 hi len ∧ bd0 hi len ≤ bd0 mx mc ∧ bd0 mx mc ≤ mc ∧
          K (.hs id (off + (bd0 lo 0).toNat * sz) ((bd0 hi len).toNat - (bd0 lo 0).toNat) ((bd0 mx mc).toNat - (bd0 lo 0).toNat) s) H
      | .sc (.slice none 0 0) => bd0 lo 0 = 0 ∧ bd0 hi 0 = 0 ∧ bd0 mx 0 = 0 ∧ K (.sc (.slice none 0 0)) H
      | _ => False)
    | none => False)
  | some (.array n e) =>
    (match tinf P e with
    | some (sz, _, _) =>
      (match x with
      | .pt id off => mx = none ∧ 0 ≤ bd0 lo 0 ∧ bd0 lo 0 ≤ bd0 hi n ∧ bd0 hi n ≤ n ∧ bd0 lo 0 < n ∧ (match H[id]? with | some (.cells cs) => cs ≠ [] ∧ off + n * sz ≤ cs.length | _ => False) ∧
          K (.hs id (off + (bd0 lo 0).toNat * sz) ((bd0 hi n).toNat - (bd0 lo 0).toNat) (n - (bd0 lo 0).toNat) sz) H
      | _ => False)
    | none => False)
  | some .string =>
    (match x with
    | .sc (.string s) => mx = none ∧ 0 ≤ bd0 lo 0 ∧ bd0 lo 0 ≤ bd0 hi s.size ∧ bd0 hi s.size ≤ s.size ∧ K (.sc (.string (s.extract (bd0 lo 0).toNat (bd0 hi s.size).toNat))) H
    | _ => False)
  | _ => False

theorem opS_slice {t : TypeId} {x : Operand} {lo hi mx : Option Operand} {l h m : Option (IntKind × Int)} (hl : bnd fr lo = some l) (hh : bnd fr hi = some h) (hmx : bnd fr mx = some m)
    (hk : aSlice P t (aev fr x) l h m H K) : OpS P ⟨dst, .slice t x lo hi mx, ty, pos, after, guard⟩ fr H K := fun g w ev hop hm => by
  have hx := hop x (by simp [Op.operands])
  have el := bnd_spec (g := g) (n := H.length) (ev := ev) hl fun y e => hop y (by subst e; simp [Op.operands])
  have eh := bnd_spec (g := g) (n := H.length) (ev := ev) hh fun y e => hop y (by subst e; simp [Op.operands])
  have em := bnd_spec (g := g) (n := H.length) (ev := ev) hmx fun y e => hop y (by subst e; simp [Op.operands])
  obtain ⟨hmh, hk⟩ := hk
  have go : ∀ u, (Instr.sliceAt t (ev x) (l.map fun p => Value.int p.1 p.2) (h.map fun p => Value.int p.1 p.2) (m.map fun p => Value.int p.1 p.2)).run P w = .ok u w →
      (execOp ev ⟨dst, .slice t x lo hi mx, ty, pos, after, guard⟩).run P w = .ok (.value u) w := fun u hu => by
    simp only [execOp, el, eh, em, Sem.run_bind, hu, Result.andThen_ok, Sem.run_pure]
  generalize aev fr x = ax at *
  generalize ev x = vx at *
  split at hk
  · rename_i e ht
    cases hti : tinf P e with
    | none => rw [hti] at hk; exact hk.elim
    | some q =>
      obtain ⟨sz, by_, zz⟩ := q
      rw [hti] at hk
      have ht' : P.underlying t = some (.slice (P.elem t)) := by simp only [Program.elem, ht]
      have hel : P.elem t = e := by simp only [Program.elem, ht]
      have run : ∀ (a : Option Addr) (len cap : Nat), 0 ≤ bd0 l 0 → bd0 l 0 ≤ bd0 h len → bd0 h len ≤ bd0 m cap → bd0 m cap ≤ cap →
          (Instr.sliceAt t (.slice a len cap) (l.map fun p => Value.int p.1 p.2) (h.map fun p => Value.int p.1 p.2) (m.map fun p => Value.int p.1 p.2)).run P w = .ok (sliced a (bd0 l 0).toNat (bd0 h len).toNat (bd0 m cap).toNat sz) w := fun a len cap h0 h1 h2 h3 => by
        rw [run_sliceAt_slice w t _ _ _ _ ht', run_slice_any w t a len cap ht', run_bounds hmh h0 h1 h2 h3, Result.andThen_ok, hel, run_sizeOf hti, Result.andThen_ok]
      cases hx with
      | nil z =>
        obtain ⟨rfl, h0, h1, h2, h3, hk⟩ := hk
        simp only [List.length_nil] at h1 h2 h3
        have z1 : bd0 l 0 = 0 := by omega
        have z2 : bd0 h ((0 : Nat) : Int) = 0 := by omega
        have z3 : bd0 m ((0 : Nat) : Int) = 0 := by omega
        rw [go _ (run none 0 0 h0 h1 h2 h3), z1, z2, z3]
        simp only [List.take_nil, List.drop_nil] at hk
        exact sr_here hm (.nil z _ (fun t e => (tkS_tk e).elim)) hk
      | sl z es k a cap f hsp hcap hz hrow hkk =>
        obtain ⟨rfl, h0, h1, h2, h3, hk⟩ := hk
        have q2 : bd0 h es.length ≤ bd0 m cap := by cases m <;> simp only [bd0] at * <;> omega
        have q3 : bd0 m cap ≤ cap := by cases m <;> simp only [bd0] at * <;> omega
        rw [go _ (run (some a) es.length cap h0 h1 q2 q3)]
        generalize hb1 : bd0 l 0 = b1 at *
        generalize hb2 : bd0 h es.length = b2 at *
        generalize hb3 : bd0 m cap = b3 at *
        have hlen : ((es.take b2.toNat).drop b1.toNat).length = b2.toNat - b1.toNat := by simp; omega
        unfold sliced
        refine sr_here hm ?_ hk
        have key : ∀ (ad : Addr), (b3.toNat - b1.toNat = 0 ∨ ad.spot = none) → ad.block = a.block → (ad.off = a.off + b1.toNat * z ∨ b2.toNat ≤ b1.toNat) → ∀ k', (k' = .no ∨ (k' = .ex ∧ b3.toNat - b1.toNat = b2.toNat - b1.toNat)) →
            VR g H.length (.sl z ((es.take b2.toNat).drop b1.toNat) k') (.slice (some ad) (b2.toNat - b1.toNat) (b3.toNat - b1.toNat)) := fun ad s1 s2 s3 k' hk' => by
          rw [← hlen]
          refine .sl z _ k' ad _ (fun j => f (b1.toNat * z + j)) s1 (by omega) (fun e he => hz e (List.mem_of_mem_take (List.mem_of_mem_drop he))) ?_ ?_
          · rcases s3 with s3 | s3
            · rw [s2, s3, flatten_drop (fun e he => hz e (List.mem_of_mem_take he)), flatten_take hz]
              exact (hrow.take _).drop _
            · have : (es.take b2.toNat).drop b1.toNat = [] := List.drop_eq_nil_of_le (by simp; omega)
              rw [this]; intro j p hj; simp at hj
          · rcases hk' with rfl | ⟨rfl, e⟩
            · trivial
            · simp only [Tk.ok]; omega
        have hk'' : tkS k h m es.length = .no ∨ (tkS k h m es.length = .ex ∧ b3.toNat - b1.toNat = b2.toNat - b1.toNat) := by
          cases m with
          | some q =>
            simp only [tkS]
            split
            · rename_i e
              right
              refine ⟨rfl, ?_⟩
              simp only [bd0] at hb3
              rw [hb2] at e; omega
            · exact .inl rfl
          | none =>
          simp only [tkS]
          cases k with
          | ex =>
            cases h with
            | none =>
              right
              refine ⟨rfl, ?_⟩
              simp only [Tk.ok] at hkk
              simp only [bd0] at hb2 hb3
              omega
            | some _ => exact .inl rfl
          | no => left; unfold tkCut; split <;> rfl
          | tk t => left; unfold tkCut; split <;> rfl
        by_cases hml : b3.toNat = b1.toNat
        · rw [if_pos hml]
          exact key a (.inl (by omega)) rfl (.inr (by omega)) _ hk''
        · rw [if_neg hml]
          simp only [Option.map_some]
          rw [add_plain (hsp.resolve_left (by omega))]
          exact key ⟨a.block, a.off + b1.toNat * z, none⟩ (.inr rfl) rfl (.inl rfl) _ hk''
      | hs id off len mc s cap hid hll hmc hcap =>
        obtain ⟨rfl, h0, h1, h2, h4, hk⟩ := hk
        have q2 : bd0 h len ≤ bd0 m (cap : Int) ∧ bd0 m (cap : Int) ≤ cap ∧ bd0 m (mc : Int) ≤ bd0 m (cap : Int) := by cases m <;> simp only [bd0] at * <;> omega
        rw [go _ (run _ len cap h0 h1 q2.1 q2.2.1)]
        generalize hb1 : bd0 l 0 = b1 at *
        generalize hb2 : bd0 h len = b2 at *
        generalize hb3 : bd0 m (cap : Int) = b3 at *
        generalize hb4 : bd0 m (mc : Int) = b4 at *
        unfold sliced
        by_cases hml : b3.toNat = b1.toNat
        · rw [if_pos hml]
          refine sr_here hm ?_ hk
          rw [show b2.toNat - b1.toNat = 0 by omega, show b4.toNat - b1.toNat = 0 by omega, show b3.toNat - b1.toNat = 0 by omega]
          exact .hn id _ s _ hid
        rw [if_neg hml]
        simp only [Option.map_some]
        rw [add_plain rfl]
        refine sr_here hm ?_ hk
        have := VR.hs (g := g) id (off + b1.toNat * s) (b2.toNat - b1.toNat) (b4.toNat - b1.toNat) s (b3.toNat - b1.toNat) hid (by omega) (by omega) (by
          have e : b3.toNat * s = b1.toNat * s + (b3.toNat - b1.toNat) * s := by rw [← Nat.add_mul]; congr 1; omega
          have := Nat.mul_le_mul_right s (show b3.toNat ≤ cap by omega)
          omega)
        rw [← Nat.add_assoc] at this
        simpa using this
      | hn id off s a hid =>
        obtain ⟨rfl, h0, h1, h2, h4, hk⟩ := hk
        have z1 : bd0 l 0 = 0 := by omega
        have z2 : bd0 h ((0 : Nat) : Int) = 0 := by omega
        have z3 : bd0 m ((0 : Nat) : Int) = 0 := by omega
        rw [go _ (run a 0 0 h0 h1 h2 h4), z1, z2, z3]
        rw [z1, z2, z3] at hk
        refine sr_here hm ?_ hk
        exact .hn id _ s a hid
      | sc =>
        simp only at hk
        split at hk
        · rename_i e
          cases e
        · rename_i e
          cases e
        · rename_i e
          cases e
          obtain ⟨z1, z2, z3, hk⟩ := hk
          rw [go _ (run none 0 0 (by omega) (by simpa [z1] using Int.le_of_eq z2.symm) (by simp [z2, z3]) (by simp [z3]))]
          have e1 : bd0 h ((0 : Nat) : Int) = 0 := z2
          have e2 : bd0 m ((0 : Nat) : Int) = 0 := z3
          rw [z1, e1, e2]
          exact sr_here hm (.sc _) hk
        · exact hk.elim
      | _ => exact hk.elim
  · rename_i n e ht
    cases hti : tinf P e with
    | none => rw [hti] at hk; exact hk.elim
    | some q =>
      obtain ⟨sz, by_, zz⟩ := q
      rw [hti] at hk
      cases hx with
      | pt id off hid =>
        obtain ⟨rfl, h0, h1, h2, h4, h5, hk⟩ := hk
        have hr : (Instr.sliceAt t (.pointer (some ⟨(g.mu id).b, (g.mu id).o + off, none⟩)) (l.map fun p => Value.int p.1 p.2) (h.map fun p => Value.int p.1 p.2) ((none : Option (IntKind × Int)).map fun p => Value.int p.1 p.2)).run P w =
            .ok (.slice (some ⟨(g.mu id).b, (g.mu id).o + off + (bd0 l 0).toNat * sz, none⟩) ((bd0 h n).toNat - (bd0 l 0).toNat) (n - (bd0 l 0).toNat)) w := by
          simp only [Instr.sliceAt, Sem.run_bind, run_underlying ht, Result.andThen_ok, Instr.sureAddr, Sem.run_pure]
          rw [run_bounds (mx := none) (fun e => by cases e) h0 h1 (by simpa [bd0] using h2) (by simp [bd0])]
          rw [show bd0 (none : Option (IntKind × Int)) (n : Int) = n from rfl]
          simp only [Result.andThen_ok, run_sizeOf hti]
          rw [if_neg (by omega), add_plain rfl]
          simp
        rw [go _ hr]
        refine sr_here hm ?_ hk
        cases he : H[id]? with
        | none => rw [he] at h5; exact h5.elim
        | some en =>
          rw [he] at h5
          cases en with
          | cells cs =>
            simp only at h5
            obtain ⟨hne, h5⟩ := h5
            obtain ⟨_, _, g3, _, _⟩ := hm.owned he (.inl hne)
            have := VR.hs (g := g) id (off + (bd0 l 0).toNat * sz) ((bd0 h n).toNat - (bd0 l 0).toNat) (n - (bd0 l 0).toNat) sz (n - (bd0 l 0).toNat) hid (by omega) (by omega) (by
              have e : n * sz = (bd0 l 0).toNat * sz + (n - (bd0 l 0).toNat) * sz := by rw [← Nat.add_mul]; congr 1; omega
              omega)
            rw [← Nat.add_assoc] at this
            exact this
          | _ => exact h5.elim
      | _ => exact hk.elim
  · rename_i ht
    cases hx with
    | sc =>
      cases vx with
      | string s =>
        obtain ⟨rfl, h0, h1, h2, hk⟩ := hk
        have hr : (Instr.sliceAt t (.string s) (l.map fun p => Value.int p.1 p.2) (h.map fun p => Value.int p.1 p.2) ((none : Option (IntKind × Int)).map fun p => Value.int p.1 p.2)).run P w = .ok (.string (s.extract (bd0 l 0).toNat (bd0 h s.size).toNat)) w := by
          rw [run_sliceAt_string w t _ _ _ _ ht]
          have hb := run_bounds (P := P) (isSl := false) (len := s.size) (cap := s.size) (lo := l) (hi := h) (mx := none) (fun e => by cases e) h0 h1 (by simpa [bd0] using h2) (by simp [bd0]) w
          simp only [Option.map_none] at hb
          simp only [Instr.slice, Sem.run_bind, run_underlying ht, Result.andThen_ok, Option.map_none, Option.isSome_none, Bool.false_eq_true, if_false, hb, Sem.run_pure]
        rw [go _ hr]
        exact sr_here hm (.sc _) hk
      | _ => exact hk.elim
    | _ => exact hk.elim
  · exact hk.elim

/-! composite values -/

def afill (place : Nat → Option (Nat × Nat)) (cells : List AV) : List (Nat × AV) → Option (List AV)
  | [] => some cells
  | (i, v) :: rest =>
    match place i with
    | none => none
    | some (off, size) => if v.flat = true ∧ v.cells.length = size ∧ off + v.cells.length ≤ cells.length then afill place (setAt cells off v.cells) rest else none

theorem zipIdx_fold (vs : List Value) (off k : Nat) (c : Array Value) : (vs.zipIdx k).foldl (fun cs (p : Value × Nat) => cs.setIfInBounds (off + p.2) p.1) c = updA c (off + k) vs := by
  induction vs generalizing c k with
  | nil => rfl
  | cons v vs ih => rw [List.zipIdx_cons, List.foldl_cons, ih]; rfl

theorem fill_rel {g : Gh} {n : Nat} {place : Nat → Option (Nat × Nat)} : ∀ (ps : List (Nat × AV)) (vs : List (Nat × Value)) (acs : List AV) (c : Array Value) (r : List AV), ps.length = vs.length →
    (∀ (j : Nat) p q, ps[j]? = some p → vs[j]? = some q → p.1 = q.1 ∧ VR g n p.2 q.2) → VRs g n acs c → afill place acs ps = some r → ∃ c', Instr.fill place c vs = some c' ∧ VRs g n r c'
  | [], vs, acs, c, r, hl, _, hc, h => by
    cases vs with
    | nil => simp only [afill, Option.some.injEq] at h; subst h; exact ⟨c, rfl, hc⟩
    | cons v vs => simp at hl
  | (i, a) :: ps, vs, acs, c, r, hl, hv, hc, h => by
    cases vs with
    | nil => simp at hl
    | cons q vs =>
      obtain ⟨i', v⟩ := q
      obtain ⟨e, hav⟩ := hv 0 _ _ rfl rfl
      simp only at e hav
      subst e
      simp only [afill] at h
      cases hp : place i with
      | none => rw [hp] at h; cases h
      | some os =>
        obtain ⟨off, size⟩ := os
        rw [hp] at h
        simp only at h
        split at h
        · rename_i hc3
          obtain ⟨hf, h1, h2⟩ := hc3
          have hcells := hav.cells hf
          have hs := hcells.1
          have hcs := hc.1
          have hupd : VRs g n (setAt acs off a.cells) (updA c off v.cells.toList) := by
            refine ⟨by rw [updA_size, setAt_length]; exact hcs, fun j b hb => ?_⟩
            obtain ⟨u, h3, h4⟩ := setAt_rel (m := 0) (c := c) (fun i a ha => by rw [Nat.zero_add]; exact hc.get ha) (show VRs g n a.cells v.cells.toList.toArray by simpa using hcells) (by omega) (by omega) j b hb
            rw [Nat.zero_add, Nat.zero_add] at h3
            rw [Array.getD_eq_getD_getElem?, h3]; exact h4
          obtain ⟨c', h5, h6⟩ := fill_rel ps vs _ _ r (by simpa using hl) (fun j p q e1 e2 => hv (j + 1) p q e1 e2) hupd h
          refine ⟨c', ?_, h6⟩
          simp only [Instr.fill, hp]
          have hn : ¬ (v.cells.size ≠ size ∨ off + v.cells.size > c.size) := by omega
          have : (decide (v.cells.size ≠ size) || decide (off + v.cells.size > c.size)) = false := by simp; omega
          simp only [this, Bool.false_eq_true, if_false]
          have hz : (v.cells.zipIdx.foldl (fun cs (p : Value × Nat) => cs.setIfInBounds (off + p.2) p.1) c) = updA c off v.cells.toList := by
            have := zipIdx_fold v.cells.toList off 0 c
            rw [Nat.add_zero] at this
            rw [← this]
            rw [← Array.foldl_toList, Array.toList_zipIdx]
          rw [hz]
          exact h5
        · cases h

theorem parts_rel {g : Gh} {n : Nat} {ev : Operand → Value} (ps : Array (Nat × Operand)) (h : ∀ p, p ∈ ps.toList → VR g n (aev fr p.2) (ev p.2)) :
    ∀ (j : Nat) p q, (ps.toList.map fun x => (x.1, aev fr x.2))[j]? = some p → ((ps.map fun x => (x.1, ev x.2)).toList)[j]? = some q → p.1 = q.1 ∧ VR g n p.2 q.2 := by
  intro j p q h1 h2
  rw [List.getElem?_map] at h1
  rw [Array.toList_map, List.getElem?_map] at h2
  cases hj : ps.toList[j]? with
  | none => rw [hj] at h1; cases h1
  | some x =>
    rw [hj] at h1 h2
    simp only [Option.map_some, Option.some.injEq] at h1 h2
    subst h1; subst h2
    exact ⟨rfl, h x (List.mem_of_getElem? hj)⟩

def fplace (P : Program) (fs : Array Field) (i : Nat) : Option (Nat × Nat) :=
  match fs[i]? with
  | some f => (match tinf P f.type with | some q => some (f.offset, q.1) | none => none)
  | none => none

def aBuild (P : Program) (t : TypeId) (ps : List (Nat × AV)) (K : AV → Prop) : Prop :=
  match tinf P t, P.underlying t with
  | some (_, _, some z), some (.struct fs) =>
    (match afill (fplace P fs) (zeroCs z) ps with
    | some cs => fs.all (fun f => (tinf P f.type).isSome) = true ∧ K (.ag cs)
    | none => False)
  | some (_, _, some z), some (.array _ e) =>
    (match tinf P e with
    | some (sz, _, _) => (match afill (fun i => some (i * sz, sz)) (zeroCs z) ps with | some cs => K (.ag cs) | none => False)
    | none => False)
  | _, _ => False

theorem run_places {fs : Array Field} (h : fs.all (fun f => (tinf P f.type).isSome) = true) (w : World) :
    ∃ pl : Array (Nat × Nat), (fs.mapM (m := Sem) fun f => do pure (f.offset, ← sizeOf f.type)).run P w = .ok pl w ∧ ∀ i : Nat, pl[i]? = fplace P fs i := by
  have : ∀ (l : List Field), (l.all fun f => (tinf P f.type).isSome) = true → ∃ pl : List (Nat × Nat), (l.mapM (m := Sem) fun f => do pure (f.offset, ← sizeOf f.type)).run P w = .ok pl w ∧ ∀ i : Nat, pl[i]? = fplace P l.toArray i := by
    intro l
    induction l with
    | nil => intro _; exact ⟨[], by simp, fun i => by simp [fplace]⟩
    | cons f l ih =>
      intro hl
      simp only [List.all_cons, Bool.and_eq_true] at hl
      obtain ⟨pl, h1, h2⟩ := ih hl.2
      cases hq : tinf P f.type with
      | none => rw [hq] at hl; cases hl.1
      | some q =>
        obtain ⟨sz, b, z⟩ := q
        refine ⟨(f.offset, sz) :: pl, ?_, fun i => ?_⟩
        · rw [List.mapM_cons, Sem.run_bind]
          rw [show (do pure (f.offset, ← sizeOf f.type) : Sem (Nat × Nat)).run P w = .ok (f.offset, sz) w from by simp only [Sem.run_bind, run_sizeOf hq, Result.andThen_ok, Sem.run_pure]]
          rw [Result.andThen_ok, Sem.run_bind, h1]
          rfl
        · cases i with
          | zero => simp [fplace, hq]
          | succ i => have := h2 i; simp only [fplace] at this ⊢; simpa using this
  obtain ⟨pl, h1, h2⟩ := this fs.toList (by rw [← Array.all_toList] at h; exact h)
  refine ⟨pl.toArray, ?_, fun i => by rw [List.getElem?_toArray, h2]⟩
  rw [Array.mapM_eq_mapM_toList, Sem.run_map, h1]
  rfl

theorem opS_build {t : TypeId} {ps : Array (Nat × Operand)} (h : aBuild P t (ps.toList.map fun x => (x.1, aev fr x.2)) fun r => K r H) : OpS P ⟨dst, .build t ps, ty, pos, after, guard⟩ fr H K := fun g w ev hop hm => by
  have hps : ∀ p, p ∈ ps.toList → VR g H.length (aev fr p.2) (ev p.2) := fun p hp => hop p.2 (by
    simp only [Op.operands, List.mem_toArray, List.mem_map]
    exact ⟨p, hp, rfl⟩)
  have hrel := parts_rel (fr := fr) ps hps
  unfold aBuild at h
  split at h
  · rename_i sz b z fs hti hs
    split at h
    · rename_i cs hfill
      obtain ⟨hall, hk⟩ := h
      obtain ⟨pl, h1, h2⟩ := run_places hall w
      obtain ⟨c', h3, h4⟩ := fill_rel _ _ _ _ _ (by simp) hrel (VRs_zero z) hfill
      have hpl : (fun i : Nat => pl[i]?) = fplace P fs := funext h2
      have : (execOp ev ⟨dst, .build t ps, ty, pos, after, guard⟩).run P w = .ok (.value (.agg c')) w := by
        simp only [execOp, Instr.build]
        rw [Sem.run_bind, Sem.run_bind, run_zeroValue hti, Result.andThen_ok, Sem.run_bind, run_underlying hs, Result.andThen_ok]
        simp only
        rw [Sem.run_bind, h1, Result.andThen_ok, hpl, h3]
        rfl
      rw [this]
      exact sr_here hm (.ag _ _ h4.1 h4.2) hk
    · exact h.elim
  · rename_i sz b z n e hti hs
    cases he : tinf P e with
    | none => rw [he] at h; exact h.elim
    | some q =>
      obtain ⟨se, be, ze⟩ := q
      rw [he] at h
      simp only at h
      split at h
      · rename_i cs hfill
        obtain ⟨c', h3, h4⟩ := fill_rel _ _ _ _ _ (by simp) hrel (VRs_zero z) hfill
        have : (execOp ev ⟨dst, .build t ps, ty, pos, after, guard⟩).run P w = .ok (.value (.agg c')) w := by
          simp only [execOp, Instr.build, Sem.run_bind, run_zeroValue hti, Result.andThen_ok, run_underlying hs, run_sizeOf he]
          rw [h3]
          rfl
        rw [this]
        exact sr_here hm (.ag _ _ h4.1 h4.2) h
      · exact h.elim
  · exact h.elim

end
end Go.Proofs.Yteclchefihcjkaa.Am
