/- More operations, told exactly: texts, nil tests, copies; new cells as a result. -/
import Derived.Test.YteclchefihcjkaaM18
namespace Go.Proofs.Yteclchefihcjkaa.Am
open Go
set_option linter.unusedVariables false

section
variable {P : Program} {fr : Frm} {H : Mem} {dst : Option Nat} {ty : TypeId} {pos : String} {after : Array Edge} {guard : Option (Nat × Bool)}

theorem OpsS_nilT {ops : Array Oper} {rest : List Oper} {K : Frm → Mem → Prop} {t t' e : TypeId} {x y : Operand} {z : Nat} {es : List (List PV)} {k : Tk} (hg : agd ops fr ⟨dst, .binOp .eql t x y t', ty, pos, after, guard⟩ = some true)
    (hu : P.underlying t = some (.slice e)) (hx : aev fr x = .sl z es k) (hy : aev fr y = .sc (.slice none 0 0)) (h : ∀ b : Bool, (b = true → es = []) → OpsS P ops rest (fr.put dst (.sc (.bool b))) H K) :
    OpsS P ops (⟨dst, .binOp .eql t x y t', ty, pos, after, guard⟩ :: rest) fr H K := by
  simp only [OpsS, hg]
  exact opS_isNil hx hy (by unfold aNil; rw [hu]; exact fun b hb => h b hb)

/-- The bytes of a constant. -/
theorem o_bytesC {s e : TypeId} {x : Operand} {id n mc : Nat} {l : List Int} {cs : List AV} {H1 : Mem} (hs : P.underlying s = some (.slice e)) (he : P.underlying e = some (.int .u8)) (hx : aev fr x = .hs id 0 n mc 1) (hn : l.length = n) (h0 : n ≠ 0)
    (hm : H[id]? = some (.cells cs)) (hc : cs = (l.map c_u8).flatten.map PV.av) (hM : H1 = H.set id .dead) :
    OpS P ⟨dst, .convert s s x, ty, pos, after, guard⟩ fr H (Det (.sl 1 (l.map c_u8) .no) H1) := opS_bytes 0 (by
  subst hc hn
  simp only [aBytes, hs, he, hx, hm]
  have hlen : ((l.map c_u8).flatten.map PV.av).length = l.length := by rw [flat_len (z := 1) (fun _ => rfl)]; omega
  refine ⟨trivial, trivial, h0, by rw [hlen]; omega, ?_⟩
  rw [mapM_flat (fun _ => rfl)]
  have e2 : chunk 1 l.length (((l.map c_u8).flatten.drop 0).take (l.length * 1)) = l.map c_u8 := chunk_flat (c := c_u8) (z := 1) (fun _ => rfl) l
  simp only [e2]
  exact ⟨.refl _, hM.symm⟩)

/-- What is copied into the middle of a row. -/
theorem o_copyO {α : Type} {c : α → List PV} {z : Nat} {t u e : TypeId} {x y : Operand} {b : Nat} {zz : Option Value} {id off len mc : Nat} {l l2 m : List α} {H1 : Mem} (hu : P.underlying t = some (.slice e)) (hti : tinf P e = some (z, b, zz)) (hz : ∀ a, (c a).length = z)
    (hcell : ∀ a, ((c a).map PV.av).all AV.cellish = true)
    (hx : aev fr x = .hs id (off * z) len mc z) (hy : aev fr y = .sl z (l2.map c) .no ∨ aev fr y = .sl z (l2.map c) .ex ∨ aev fr y = .sc (.slice none 0 0) ∧ l2 = []) (hm : H[id]? = some (.cells ((l.map c).flatten.map PV.av))) (hl : off + len ≤ l.length)
    (hmm : m = l.take off ++ l2.take len ++ l.drop (off + min l2.length len)) (hM : H1 = H.set id (.cells ((m.map c).flatten.map PV.av))) :
    OpS P ⟨dst, .call ⟨.builtin .copy, #[x, y], #[t, u]⟩, ty, pos, after, guard⟩ fr H (Det (.sc (.int .i64 (min l2.length len : Nat))) H1) := opS_copy (by
  have hsrc : srcA z (aev fr y) H = some (l2.length, (l2.map c).flatten.map PV.av) := by
    rcases hy with hy | hy | ⟨hy, rfl⟩ <;> simp [srcA, hy]
  have h1 : ((l2.map c).flatten.map PV.av).take (min l2.length len * z) = ((l2.take len).map c).flatten.map PV.av := by
    have e : l2 = l2.take len ++ l2.drop len := (List.take_append_drop _ _).symm
    have hlen : min l2.length len * z = (((l2.take len).map c).flatten.map PV.av).length := by rw [flat_len hz, List.length_take, Nat.min_comm]
    conv => lhs; rw [hlen]; arg 2; rw [e]
    rw [List.map_append, List.flatten_append, List.map_append, List.take_left]
  have h2 : setAt ((l.map c).flatten.map PV.av) (off * z) (((l2.take len).map c).flatten.map PV.av) = ((m.map c).flatten.map PV.av) := by
    have hk : min l2.length len ≤ len := Nat.min_le_right _ _
    have e : l = l.take off ++ ((l.drop off).take (min l2.length len) ++ l.drop (off + min l2.length len)) := by
      rw [← List.drop_drop, List.take_append_drop, List.take_append_drop]
    have el : off * z = (((l.take off).map c).flatten.map PV.av).length := by rw [flat_len hz, List.length_take, Nat.min_eq_left (by omega)]
    rw [hmm]
    conv => lhs; arg 1; rw [e]
    simp only [List.map_append, List.flatten_append, List.append_assoc]
    conv => lhs; rw [el]
    rw [setAt_mid]
    rw [flat_len hz, flat_len hz]
    congr 1
    simp only [List.length_take, List.length_drop]
    omega
  simp only [aCopy, hu, hti, hsrc, hx, hm, h1, h2]
  refine ⟨trivial, ?_, ?_, .refl _, hM.symm⟩
  · rw [List.all_eq_true]
    intro v hv
    obtain ⟨p, hp, rfl⟩ := List.mem_map.1 hv
    obtain ⟨e, he, hpe⟩ := List.mem_flatten.1 hp
    obtain ⟨a, ha, rfl⟩ := List.mem_map.1 he
    exact List.all_eq_true.1 (hcell a) _ (List.mem_map.2 ⟨p, hpe, rfl⟩)
  · rw [flat_len hz, ← Nat.add_mul]
    exact Nat.mul_le_mul_right _ (by have := Nat.min_le_right l2.length len; omega))
end

theorem Bd.wide {n m : Nat} (h : n ≤ m) {a : AV} (hb : Bd n a) : Bd m a := by
  induction hb with
  | any => exact .any
  | sc v => exact .sc v
  | sl z es k hk => exact .sl z es k fun t e => Nat.lt_of_lt_of_le (hk t e) h
  | ag cs _ ih => exact .ag cs ih
  | tp cs _ ih => exact .tp cs ih
  | pt id off hid => exact .pt id off (by omega)
  | ep cs => exact .ep cs
  | hs id off len mc s hid => exact .hs id off len mc s (by omega)
  | mp id hid => exact .mp id (by omega)
  | fn f fs cs _ _ i1 i2 => exact .fn f fs cs i1 i2
theorem Bd.emono {n m : Nat} (h : n ≤ m) {e : Ent} (hb : e.Bd n) : e.Bd m := by
  cases e with
  | dead => trivial
  | tok => trivial
  | cells cs => exact fun i c hc => (hb i c hc).wide h
  | map es => exact fun k a hi => (hb k a hi).wide h
  | mpi es ents clock => exact fun k a hi => (hb k a hi).wide h
  | itr mid since seen stepped => exact Nat.lt_of_lt_of_le hb h
  | tr cs => exact fun i c hc => (hb i c hc).mono fun _ ha => ha.wide h
theorem MBd.new {H : Mem} {cs : List AV} (hH : MBd H) (hc : cs.all AV.clo1 = true) : MBd (H ++ [.cells cs]) := fun id e he => by
  rcases get_snoc he with he | ⟨rfl, rfl⟩
  · exact Bd.emono (by simp) (hH id e he)
  · exact fun i c hc' => AV.clo1_bd (List.all_eq_true.1 hc c (List.mem_of_getElem? hc'))
theorem clo1_av (p : PV) : p.av.clo1 = true := by cases p <;> rfl
theorem AVLe.hsn {α : Type} {e n z : Nat} {l : List α} (h : l.length = n) : AVLe (.hs e 0 n n z) (.hs e 0 l.length l.length z) := by subst h; exact .refl _
theorem AVLt.hn (n z : Nat) : AVLt n (.sc (.slice none 0 0)) (.hs n 0 0 0 z) := fun _ _ _ hn h => by cases h; exact .hn n 0 z none hn
/-- A nil row, as one of one's own. -/
theorem Reb.none {N n0 : Nat} {fr : Frm} {H : Mem} {l : List (Nat × AV)} (h : FtL H.length fr l) : Reb N n0 fr (Frm.of l) H (H ++ [.cells []]) := fun g w tmps hl hf hm => by
  obtain ⟨m1, m2⟩ := hm.push_none
  refine ⟨_, ⟨hf.size, ?_⟩, m1, ⟨⟨m2.gle.ro, fun i hi => m2.gle.mu i (by omega)⟩, m2.un, m2.size, m2.os, m2.tape, m2.output⟩, by simp; omega⟩
  intro t
  have hfr := (hf.mono m2.gle (by simp : H.length ≤ (H ++ [Ent.cells []]).length)).vr t
  generalize tmps.getD t undef = u at hfr
  induction l with
  | nil => exact .any _
  | cons p r ih =>
    obtain ⟨d, v⟩ := p
    by_cases e : t = d
    · subst e
      simp only [Frm.of, if_true]
      exact h.1 _ _ _ (by simp) hfr
    · simp only [Frm.of, if_neg e]
      exact ih h.2
/-- Room behind cells that are a call's own no more. -/
theorem MR.retok {g : Gh} {H : Mem} {w : World} {id b o l : Nat} (hm : MR g H w) (hd : H[id]? = some .dead) (hob : g.ow b = some id) (hblk : Blk w b l) (hro : ∀ o' v, g.ro b o' = some v → o' < o) :
    MR (g.addE H.length ⟨b, o, l⟩) (H ++ [.tok]) w ∧ Ev H.length g w (g.addE H.length ⟨b, o, l⟩) w := by
  have hgle : Gle H.length g (g.addE H.length ⟨b, o, l⟩) := ⟨fun _ _ _ h => h, fun i hi => by simp only [Gh.addE]; rw [if_neg (by omega)]⟩
  refine ⟨⟨hm.ro, fun id' x hx => ?_, fun b' id' ho => ?_⟩, ⟨hgle, fun b' hb' ho => ⟨?_, rfl⟩, Nat.le_refl _, rfl, rfl, rfl⟩⟩
  · rcases get_snoc hx with hx | ⟨rfl, rfl⟩
    · have hid := lt_of_get hx
      have he := hm.ent id' x hx
      rcases he.own hid with hfr' | hown
      · exact hfr' _ _ _ hgle
      · by_cases hbi : id' = id
        · subst hbi
          rw [hd] at hx; cases hx; trivial
        · refine he.keep hid hgle (by simp) fun b' hown => ⟨?_, fun _ => rfl, rfl⟩
          have hbb : b' ≠ b := fun hbb => by rw [hbb, hob] at hown; cases hown; exact hbi rfl
          simp only [Gh.addE]; rw [if_neg hbb]; exact hown
    · simp only [EntR, Gh.addE, if_true]
      exact .inr ⟨trivial, hblk, hro⟩
  · simp only [Gh.addE] at ho
    split at ho
    · rename_i e; subst e; cases ho
      exact ⟨(hm.ow _ _ hob).1, by simp⟩
    · have := hm.ow b' id' ho
      exact ⟨this.1, by simp; omega⟩
  · simp only [Gh.addE]
    rw [if_neg (fun e => by rw [e, hob] at ho; cases ho)]; exact ho

theorem VR.withT {g g2 : Gh} {n m z len cap T : Nat} {rows : List (List PV)} {a : Addr} (h : VR g n (.sl z rows .no) (.slice (some a) len cap)) (hro : ∀ b o v, g.ro b o = some v → g2.ro b o = some v) (ht : T < m)
    (hmu : cap = len ∨ g2.mu T = ⟨a.block, a.off + len * z, a.off + cap * z⟩) : VR g2 m (.sl z rows (.tk T)) (.slice (some a) len cap) := by
  cases h with
  | sl _ _ _ _ _ f q1 q2 q3 q4 q5 => exact .sl z _ _ _ cap f q1 q2 q3 (q4.mono hro) ⟨ht, hmu⟩

/-- All that was made is forgotten, but for a spare room. -/
theorem Reb.tokM {N : Nat} {fr : Frm} {H M : Mem} {e t z : Nat} {es : List (List PV)} (hb : MBd H) (hp : H <+: M) (hk : M[e]? = some .tok) (hlo : H.length ≤ e) (ht : fr t = .sl z es (.tk e)) :
    Reb N H.length fr (Frm.of [(t, .sl z es (.tk H.length))]) M (H ++ [.tok]) := by
  obtain ⟨tl, rfl⟩ := hp
  obtain ⟨k, rfl⟩ : ∃ k, e = H.length + k := ⟨e - H.length, by omega⟩
  refine Reb.tok (Nat.le_refl _) hb (t := k) ?_ ⟨?_, trivial⟩
  · rw [getElem?_tok] at hk; exact hk
  · rw [ht]; exact Rn.tok
theorem MBd.newT {H : Mem} (hH : MBd H) : MBd (H ++ [.tok]) := fun id e he => by
  rcases get_snoc he with he | ⟨rfl, rfl⟩
  · exact Bd.emono (by simp) (hH id e he)
  · trivial
theorem Bd_newT {z : Nat} (H : Mem) (x : Ent) (es : List (List PV)) : Bd (H ++ [x]).length (.sl z es (.tk H.length)) := .sl _ _ _ fun t e => by cases e; simp
theorem done_reb {P : Program} {fn : Func} {N n0 : Nat} {t : Tmp} {fr : Frm} {M M1 : Mem} {r0 : AV} (hr : fn.results = #[.tmp t]) (h : Reb N n0 fr (Frm.of [(t, r0)]) M M1) :
    ∃ fr1 H', Reb N n0 fr fr1 M H' ∧ resS P fn fr1 H' fun r M => AVLe r r0 ∧ M1 <+: M := ⟨_, _, h, resS_tmp hr ⟨by simp only [Frm.of, if_true]; exact .refl _, List.prefix_refl _⟩⟩
theorem Bd_new (H : Mem) (x : Ent) : Bd (H ++ [x]).length (.pt H.length 0) := .pt _ _ (by simp)
theorem pre_new {H M : Mem} {e : Nat} {x : Ent} (he : e = H.length) (hp : H <+: M) (hx : M[e]? = some x) : H ++ [x] <+: M := by
  subst he
  obtain ⟨tl, rfl⟩ := hp
  rw [List.getElem?_append_right (Nat.le_refl _), Nat.sub_self] at hx
  cases tl with
  | nil => simp at hx
  | cons y tl => simp at hx; subst hx; exact ⟨tl, by simp⟩

end Go.Proofs.Yteclchefihcjkaa.Am
