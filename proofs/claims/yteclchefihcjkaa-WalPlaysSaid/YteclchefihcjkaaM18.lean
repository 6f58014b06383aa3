/- Operations one by one, their values told exactly: rules that a printed walk names. -/
import Derived.Test.YteclchefihcjkaaM17
namespace Go.Proofs.Yteclchefihcjkaa.Am
open Go
set_option linter.unusedVariables false

section
variable {P : Program} {fr : Frm} {H : Mem} {dst : Option Nat} {ty : TypeId} {pos : String} {after : Array Edge} {guard : Option (Nat × Bool)}

theorem o_move {x : Operand} {r : AV} (h : AVLe (aev fr x) r) : OpS P ⟨dst, .move x, ty, pos, after, guard⟩ fr H (Det r H) := opS_move ⟨h, rfl⟩
theorem o_assign {x : Operand} {r : AV} (h : AVLe (aev fr x) r) : OpS P ⟨dst, .assign x, ty, pos, after, guard⟩ fr H (Det r H) := opS_assign ⟨h, rfl⟩
theorem o_pick {c x y : Operand} {b : Bool} {r : AV} (hc : aev fr c = .sc (.bool b)) (h : AVLe (if b then aev fr x else aev fr y) r) : OpS P ⟨dst, .pick c x y, ty, pos, after, guard⟩ fr H (Det r H) := opS_pick hc ⟨h, rfl⟩
theorem o_bin {op : BinOp} {t t' : TypeId} {x y : Operand} {v : Value} (hv : aBin P op t (aev fr x) (aev fr y) = some v) : OpS P ⟨dst, .binOp op t x y t', ty, pos, after, guard⟩ fr H (Det (.sc v) H) := opS_binOp hv ⟨.refl _, rfl⟩
theorem o_int {op : BinOp} {t t' : TypeId} {x y : Operand} {k : IntKind} {a b : Int} {v : Value} (hx : aev fr x = .sc (.int k a)) (hy : aev fr y = .sc (.int k b)) (ho : (match op with | .shl | .shr => false | _ => true) = true)
    (hv : intBin op k a b = some v) : OpS P ⟨dst, .binOp op t x y t', ty, pos, after, guard⟩ fr H (Det (.sc v) H) := o_bin (by
  rw [hx, hy]
  cases op <;> first | exact absurd ho (by decide) | simpa [aBin] using hv)
theorem o_shl {t t' : TypeId} {x y : Operand} {k k' : IntKind} {a b : Int} {n : Nat} (hx : aev fr x = .sc (.int k a)) (hy : aev fr y = .sc (.int k' b)) (hn : cnt k b = some n) :
    OpS P ⟨dst, .binOp .shl t x y t', ty, pos, after, guard⟩ fr H (Det (.sc (.int k (shlI k a n))) H) := o_bin (by
  obtain ⟨h0, rfl⟩ := cnt_some hn
  rw [hx, hy]
  simp only [aBin, if_pos h0, shlI])
theorem o_shr {t t' : TypeId} {x y : Operand} {k k' : IntKind} {a b : Int} {n : Nat} (hx : aev fr x = .sc (.int k a)) (hy : aev fr y = .sc (.int k' b)) (hn : cnt k b = some n) :
    OpS P ⟨dst, .binOp .shr t x y t', ty, pos, after, guard⟩ fr H (Det (.sc (.int k (shrI a n))) H) := o_bin (by
  obtain ⟨h0, rfl⟩ := cnt_some hn
  rw [hx, hy]
  simp only [aBin, if_pos h0, shrI])
theorem o_rem {t t' : TypeId} {x y : Operand} {k : IntKind} {a b n : Int} (hx : aev fr x = .sc (.int k a)) (hy : aev fr y = .sc (.int k b)) (hn : remI a b = some n) :
    OpS P ⟨dst, .binOp .rem t x y t', ty, pos, after, guard⟩ fr H (Det (.sc (.int k n)) H) := o_int hx hy rfl (by
  obtain ⟨h0, rfl⟩ := remI_some hn
  simp only [intBin, if_neg h0])
theorem o_str {op : BinOp} {t t' : TypeId} {x y : Operand} {a b : List UInt8} {v : Value} (hx : aev fr x = .sc (.string ⟨a.toArray⟩)) (hy : aev fr y = .sc (.string ⟨b.toArray⟩)) (hv : strBin op ⟨a.toArray⟩ ⟨b.toArray⟩ = some v) :
    OpS P ⟨dst, .binOp op t x y t', ty, pos, after, guard⟩ fr H (Det (.sc v) H) := o_bin (by rw [hx, hy]; exact hv)
theorem o_eqS {t t' : TypeId} {x y : Operand} {a b : List UInt8} (hx : aev fr x = .sc (.string ⟨a.toArray⟩)) (hy : aev fr y = .sc (.string ⟨b.toArray⟩)) :
    OpS P ⟨dst, .binOp .eql t x y t', ty, pos, after, guard⟩ fr H (Det (.sc (.bool (a == b))) H) := o_str hx hy (by simp [strBin])
theorem o_neS {t t' : TypeId} {x y : Operand} {a b : List UInt8} (hx : aev fr x = .sc (.string ⟨a.toArray⟩)) (hy : aev fr y = .sc (.string ⟨b.toArray⟩)) :
    OpS P ⟨dst, .binOp .neq t x y t', ty, pos, after, guard⟩ fr H (Det (.sc (.bool (a != b))) H) := o_str hx hy (by simp [strBin, bne])
theorem o_nilSl {op : BinOp} {t t' e : TypeId} {x y : Operand} {b : Bool} {v : Value} (hu : P.underlying t = some (.slice e)) (hx : twoNil (nilSl (aev fr x)) (nilSl (aev fr y)) = some b)
    (hs : (match aev fr x, aev fr y with | .sc (.int _ _), .sc (.int _ _) => false | .sc (.string _), .sc (.string _) => false | _, _ => true) = true)
    (hv : (match op with | .eql => some (Value.bool b) | .neq => some (.bool (!b)) | _ => none) = some v) : OpS P ⟨dst, .binOp op t x y t', ty, pos, after, guard⟩ fr H (Det (.sc v) H) := o_bin (by
  unfold aBin
  split
  · rename_i h1 h2; simp only [h1, h2] at hs; cases hs
  · rename_i h1 h2; simp only [h1, h2] at hs; cases hs
  · cases op <;> simp only [aEq, hu, hx] at hv ⊢ <;> first | exact hv | cases hv)
theorem o_nilPt {op : BinOp} {t t' e : TypeId} {x y : Operand} {b : Bool} {v : Value} (hu : P.underlying t = some (.pointer e)) (hx : twoNil (nilPt (aev fr x)) (nilPt (aev fr y)) = some b)
    (hs : (match aev fr x, aev fr y with | .sc (.int _ _), .sc (.int _ _) => false | .sc (.string _), .sc (.string _) => false | _, _ => true) = true)
    (hv : (match op with | .eql => some (Value.bool b) | .neq => some (.bool (!b)) | _ => none) = some v) : OpS P ⟨dst, .binOp op t x y t', ty, pos, after, guard⟩ fr H (Det (.sc v) H) := o_bin (by
  unfold aBin
  split
  · rename_i h1 h2; simp only [h1, h2] at hs; cases hs
  · rename_i h1 h2; simp only [h1, h2] at hs; cases hs
  · cases op <;> simp only [aEq, hu, hx] at hv ⊢ <;> first | exact hv | cases hv)

theorem o_not {t : TypeId} {x : Operand} {b : Bool} (hx : aev fr x = .sc (.bool b)) : OpS P ⟨dst, .unOp .not t x, ty, pos, after, guard⟩ fr H (Det (.sc (.bool (!b))) H) := opS_unOp (by rw [hx]; rfl) ⟨.refl _, rfl⟩
theorem o_com {t : TypeId} {x : Operand} {k : IntKind} {n : Int} (hx : aev fr x = .sc (.int k n)) : OpS P ⟨dst, .unOp .xor t x, ty, pos, after, guard⟩ fr H (Det (.sc (.int k (notI k n))) H) := opS_unOp (by rw [hx]; rfl) ⟨.refl _, rfl⟩

theorem o_convI {s d : TypeId} {x : Operand} {k k' : IntKind} {n : Int} {u : TypeDesc} (hs : P.underlying s = some u) (hd : P.underlying d = some (.int k)) (hx : aev fr x = .sc (.int k' n)) :
    OpS P ⟨dst, .convert s d x, ty, pos, after, guard⟩ fr H (Det (.sc (.int k (k.wrap n))) H) := opS_convert (v := .int k (k.wrap n)) (by simp only [aConv, hs, hd, hx]) ⟨.refl _, rfl⟩
theorem all_c_u8 (l : List Int) : ((l.map c_u8).all fun e => (byteOf e).isSome) = true := by
  rw [List.all_map, List.all_eq_true]
  intro x _
  rfl
theorem bytesOf_c_u8 (l : List Int) : bytesOf (l.map c_u8) = ⟨(strOf l).toArray⟩ := by
  unfold bytesOf strOf
  rw [List.filterMap_map]
  have : (byteOf ∘ c_u8) = fun n => some (u8 n) := funext fun _ => rfl
  rw [this]
  congr 2
  induction l with
  | nil => rfl
  | cons x l ih => simp [ih]
theorem o_convS {s d e : TypeId} {x : Operand} {l : List Int} {k : Tk} (hs : P.underlying s = some (.slice e)) (he : P.underlying e = some (.int .u8)) (hd : P.underlying d = some .string) (hx : aev fr x = .sl 1 (l.map c_u8) k) :
    OpS P ⟨dst, .convert s d x, ty, pos, after, guard⟩ fr H (Det (.sc (.string ⟨(strOf l).toArray⟩)) H) := opS_convert (v := .string ⟨(strOf l).toArray⟩) (by simp only [aConv, hs, hd, hx, he, if_true, all_c_u8, bytesOf_c_u8]) ⟨.refl _, rfl⟩
theorem o_alloc {t : TypeId} {s b : Nat} {z : Value} {H1 : Mem} (ht : tinf P t = some (s, b, some z)) (hM : H1 = H ++ [.cells (zeroCs z)]) : OpS P ⟨dst, .alloc t, ty, pos, after, guard⟩ fr H (Det (.pt H.length 0) H1) := opS_alloc ht ⟨.refl _, hM.symm⟩
theorem o_box {t : TypeId} {x : Operand} {H1 : Mem} (hf : (aev fr x).flat = true) (hM : H1 = H ++ [.cells (aev fr x).cells]) : OpS P ⟨dst, .box t x, ty, pos, after, guard⟩ fr H (Det (.pt H.length 0) H1) := opS_box hf ⟨.refl _, hM.symm⟩
theorem o_extract {x : Operand} {i : Nat} {vs : List AV} {a : AV} (hx : aev fr x = .tp vs) (ha : vs[i]? = some a) : OpS P ⟨dst, .extract x i, ty, pos, after, guard⟩ fr H (Det a H) := opS_extract hx ha ⟨.refl _, rfl⟩
theorem o_nilCheck {x : Operand} {r : AV} (ht : (aev fr x).there = true) (h : AVLe (aev fr x) r) : OpS P ⟨dst, .nilCheck x, ty, pos, after, guard⟩ fr H (Det r H) := opS_nilCheck ht ⟨h, rfl⟩
/-! Memory -/

theorem o_loadE {t : TypeId} {x : Operand} {q : Nat × Nat × Option Value} {p : PV} {ps : List PV} {r : AV} (hag : aggT P t = some false) (hti : tinf P t = some q) (hx : aev fr x = .ep (p :: ps)) (h : AVLe p.av r) :
    OpS P ⟨dst, .load t x, ty, pos, after, guard⟩ fr H (Det r H) := opS_load (by simp only [aLoad, hag, hti, hx]; exact ⟨h, rfl⟩)
theorem o_loadEA {t : TypeId} {x : Operand} {s b : Nat} {z : Option Value} {cs : List PV} {r : AV} (hag : aggT P t = some true) (hti : tinf P t = some (s, b, z)) (hx : aev fr x = .ep cs) (hl : s ≤ cs.length)
    (h : AVLe (.ag ((cs.take s).map PV.av)) r) : OpS P ⟨dst, .load t x, ty, pos, after, guard⟩ fr H (Det r H) := opS_load (by simp only [aLoad, hag, hti, hx]; exact ⟨hl, h, rfl⟩)
theorem o_loadP {t : TypeId} {x : Operand} {q : Nat × Nat × Option Value} {id off : Nat} {cs : List AV} {c r : AV} (hag : aggT P t = some false) (hti : tinf P t = some q) (hx : aev fr x = .pt id off) (hm : H[id]? = some (.cells cs))
    (hc : cs[off]? = some c) (h : AVLe c r) : OpS P ⟨dst, .load t x, ty, pos, after, guard⟩ fr H (Det r H) := opS_load (by simp only [aLoad, hag, hti, hx, hm, hc]; exact ⟨h, rfl⟩)
theorem o_store {t : TypeId} {x y : Operand} {s b : Nat} {z : Option Value} {id off : Nat} {cs cs' : List AV} {v : AV} {H1 : Mem} (hti : tinf P t = some (s, b, z)) (hx : aev fr x = .pt id off) (hy : aev fr y = v) (hm : H[id]? = some (.cells cs))
    (h0 : s ≠ 0) (hf : v.flat = true) (hs : v.cells.length = s) (hc : v.cells.all AV.cellish = true) (hl : off + s ≤ cs.length) (he : setAt cs off v.cells = cs') (hM : H1 = H.set id (.cells cs')) :
    OpS P ⟨dst, .store t x y, ty, pos, after, guard⟩ fr H (Det undefA H1) := opS_store (by
  subst hy he
  simp only [aStore, hti, hx, hm]
  exact ⟨h0, hf, hs, hc, hl, .refl _, hM.symm⟩)
theorem o_fieldAddrP {s ft fo : Nat} {x : Operand} {i : Nat} {fs : Array Field} {sz b : Nat} {z : Option Value} {id off : Nat} (hu : P.underlying s = some (.struct fs)) (hf : (fs[i]?).map (fun f => (f.type, f.offset)) = some (ft, fo)) (ht : tinf P ft = some (sz, b, z)) (hq : sz ≠ 0)
    (hx : aev fr x = .pt id off) : OpS P ⟨dst, .fieldAddr s x i, ty, pos, after, guard⟩ fr H (Det (.pt id (off + fo)) H) := opS_fieldAddr (by
  cases hf' : fs[i]? with
  | none => rw [hf'] at hf; cases hf
  | some f =>
    rw [hf'] at hf
    cases hf
    simp only [aFieldAddr, hu, hf', ht, hx]
    exact ⟨hq, .refl _, rfl⟩)
theorem o_fieldAddrE {s ft fo : Nat} {x : Operand} {i : Nat} {fs : Array Field} {sz b : Nat} {z : Option Value} {cs : List PV} (hu : P.underlying s = some (.struct fs)) (hf : (fs[i]?).map (fun f => (f.type, f.offset)) = some (ft, fo)) (ht : tinf P ft = some (sz, b, z)) (hq : sz ≠ 0)
    (hx : aev fr x = .ep cs) : OpS P ⟨dst, .fieldAddr s x i, ty, pos, after, guard⟩ fr H (Det (.ep (cs.drop fo)) H) := opS_fieldAddr (by
  cases hf' : fs[i]? with
  | none => rw [hf'] at hf; cases hf
  | some f =>
    rw [hf'] at hf
    cases hf
    simp only [aFieldAddr, hu, hf', ht, hx]
    exact ⟨hq, .refl _, rfl⟩)
/-! Rows -/

section
variable {α : Type} {c : α → List PV}
theorem map_idx {l : List α} {i : Int} {a : α} (h : idx l i = some a) : 0 ≤ i ∧ (l.map c)[i.toNat]? = some (c a) := by
  obtain ⟨h0, h1⟩ := idx_some h
  exact ⟨h0, by rw [List.getElem?_map, h1]; rfl⟩
theorem o_indexAddr {t e : TypeId} {x y : Operand} {s b : Nat} {z : Option Value} {l : List α} {k : Tk} {kk : IntKind} {i : Int} {a : α} (hu : P.underlying t = some (.slice e)) (hti : tinf P e = some (s, b, z)) (hx : aev fr x = .sl s (l.map c) k)
    (hy : aev fr y = .sc (.int kk i)) (hi : idx l i = some a) : OpS P ⟨dst, .indexAddr t x y, ty, pos, after, guard⟩ fr H (Det (.ep (c a)) H) := opS_indexAddr (by
  obtain ⟨h0, h1⟩ := map_idx (c := c) hi
  simp only [aIndexAddr, hu, hti, hx, hy, h1]
  exact ⟨trivial, h0, .refl _, rfl⟩)
theorem o_indexAddrH {t e : TypeId} {x y : Operand} {s b : Nat} {z : Option Value} {id off len mc : Nat} {kk : IntKind} {i : Int} (hu : P.underlying t = some (.slice e)) (hti : tinf P e = some (s, b, z)) (hx : aev fr x = .hs id off len mc s)
    (hy : aev fr y = .sc (.int kk i)) (h0 : 0 ≤ i) (h1 : i < len) : OpS P ⟨dst, .indexAddr t x y, ty, pos, after, guard⟩ fr H (Det (.pt id (off + i.toNat * s)) H) := opS_indexAddr (by
  simp only [aIndexAddr, hu, hti, hx, hy]
  exact ⟨trivial, h0, h1, .refl _, rfl⟩)
theorem o_lenL {t e : TypeId} {x : Operand} {z : Nat} {l : List α} {k : Tk} (hu : P.underlying t = some (.slice e)) (hx : aev fr x = .sl z (l.map c) k) :
    OpS P ⟨dst, .call ⟨.builtin .len, #[x], #[t]⟩, ty, pos, after, guard⟩ fr H (Det (.sc (.int .i64 l.length)) H) := opS_len (n := l.length) (by simp only [aLen, hu, hx, List.length_map]) ⟨.refl _, rfl⟩
theorem o_lenN {t e : TypeId} {x : Operand} (hu : P.underlying t = some (.slice e)) (hx : aev fr x = .sc (.slice none 0 0)) :
    OpS P ⟨dst, .call ⟨.builtin .len, #[x], #[t]⟩, ty, pos, after, guard⟩ fr H (Det (.sc (.int .i64 0)) H) := opS_len (n := 0) (by simp only [aLen, hu, hx]; rfl) ⟨.refl _, rfl⟩
theorem o_lenH {t e : TypeId} {x : Operand} {id off len mc s : Nat} (hu : P.underlying t = some (.slice e)) (hx : aev fr x = .hs id off len mc s) :
    OpS P ⟨dst, .call ⟨.builtin .len, #[x], #[t]⟩, ty, pos, after, guard⟩ fr H (Det (.sc (.int .i64 len)) H) := opS_len (n := len) (by simp only [aLen, hu, hx]) ⟨.refl _, rfl⟩
theorem o_max {ats : Array TypeId} {x y : Operand} {k : IntKind} {a b : Int} (hx : aev fr x = .sc (.int k a)) (hy : aev fr y = .sc (.int k b)) : OpS P ⟨dst, .call ⟨.builtin .max, #[x, y], ats⟩, ty, pos, after, guard⟩ fr H (Det (.sc (.int k (maxI a b))) H) :=
  opS_max (v := .int k (maxI a b)) (by rw [hx, hy]; rfl) ⟨.refl _, rfl⟩
theorem o_min {ats : Array TypeId} {x y : Operand} {k : IntKind} {a b : Int} (hx : aev fr x = .sc (.int k a)) (hy : aev fr y = .sc (.int k b)) : OpS P ⟨dst, .call ⟨.builtin .min, #[x, y], ats⟩, ty, pos, after, guard⟩ fr H (Det (.sc (.int k (minI a b))) H) :=
  opS_min (v := .int k (minI a b)) (by rw [hx, hy]; rfl) ⟨.refl _, rfl⟩

theorem o_slice {t e : TypeId} {x : Operand} {lo hi mx : Option Operand} {s b : Nat} {z : Option Value} {l m : List α} {k : Tk} {lo' hi' mx' : Option (IntKind × Int)} (hu : P.underlying t = some (.slice e)) (hti : tinf P e = some (s, b, z))
    (hx : aev fr x = .sl s (l.map c) k) (hl : bnd fr lo = some lo') (hh : bnd fr hi = some hi') (hmx : bnd fr mx = some mx') (hs : slc l (bd0 lo' 0) (bd0 hi' l.length) = some m)
    (hm : mx'.isSome = true → hi'.isSome = true ∧ bd0 hi' l.length = bd0 mx' l.length) : OpS P ⟨dst, .slice t x lo hi mx, ty, pos, after, guard⟩ fr H (Det (.sl s (m.map c) (tkS k hi' mx' l.length)) H) := by
  obtain ⟨h0, h1, h2, rfl⟩ := slc_some hs
  refine opS_slice hl hh hmx ?_
  refine ⟨fun h => (hm h).1, ?_⟩
  simp only [hu, hti, hx, List.length_map, true_and]
  have e1 : bd0 hi' (l.length : Int) ≤ bd0 mx' (l.length : Int) ∧ bd0 mx' (l.length : Int) ≤ l.length := by
    cases mx' with
    | none => exact ⟨h2, Int.le_refl _⟩
    | some q => have := (hm rfl).2; omega
  refine ⟨h0, h1, e1.1, e1.2, ?_, rfl⟩
  rw [List.map_drop, List.map_take]
  exact .refl _
theorem o_sliceNil {t e : TypeId} {x : Operand} {lo hi mx : Option Operand} {s b : Nat} {z : Option Value} {m : List α} {lo' hi' mx' : Option (IntKind × Int)} (hu : P.underlying t = some (.slice e)) (hti : tinf P e = some (s, b, z))
    (hx : aev fr x = .sc (.slice none 0 0)) (hl : bnd fr lo = some lo') (hh : bnd fr hi = some hi') (hmx : bnd fr mx = some mx') (hs : slc ([] : List α) (bd0 lo' 0) (bd0 hi' 0) = some m)
    (hm : mx'.isSome = true → hi'.isSome = true ∧ bd0 hi' 0 = bd0 mx' 0) : OpS P ⟨dst, .slice t x lo hi mx, ty, pos, after, guard⟩ fr H (Det (.sc (.slice none 0 0)) H) := by
  obtain ⟨h0, h1, h2, rfl⟩ := slc_some hs
  simp only [List.length_nil] at h2
  refine opS_slice hl hh hmx ?_
  refine ⟨fun h => (hm h).1, ?_⟩
  simp only [hu, hti, hx]
  have e1 : bd0 mx' (0 : Int) = 0 := by
    cases mx' with
    | none => rfl
    | some q => have := (hm rfl).2; omega
  exact ⟨by omega, by omega, e1, .refl _, rfl⟩
/-- The same, its spare room known. -/
theorem o_app1 {t u e : TypeId} {x y : Operand} {s b : Nat} {z : Value} {l l2 m : List α} {H1 : Mem} (hx : aev fr x = .sl s (l.map c) .ex ∨ (aev fr x = .sc (.slice none 0 0) ∧ l = [])) (hy : srcP s (aev fr y) H = some (l2.map c))
    (hu : P.underlying t = some (.slice e)) (hti : tinf P e = some (s, b, some z)) (hz : (zeroCs z).length = s) (hss : sliceStr P u = true) (happ : app b l l2 = some m) (hM : H1 = H ++ [.tok]) :
    OpS P ⟨dst, .call ⟨.builtin .append, #[x, y], #[t, u]⟩, ty, pos, after, guard⟩ fr H (Det (.sl s (m.map c) (.tk H.length)) H1) := by
  obtain ⟨h1, h2, rfl⟩ := app_some happ
  refine opS_append 1 ⟨hss, ?_⟩
  simp only [hu, hti, hy]
  refine ⟨hz, ?_⟩
  rcases hx with hx | ⟨hx, rfl⟩
  · simp only [hx, List.length_map]
    refine ⟨trivial, h1, h2, fun h => by omega, ?_, hM.symm⟩
    rw [List.map_append]; exact .refl _
  · simp only [hx, List.length_map]
    simp only [List.length_nil, Nat.zero_add] at h1 h2
    exact ⟨h1, h2, .refl _, hM.symm⟩
/-- Behind what has spare room. -/
theorem o_appT {t u e : TypeId} {x y : Operand} {s b tk : Nat} {z : Value} {l l2 m : List α} {H1 : Mem} (hx : aev fr x = .sl s (l.map c) (.tk tk)) (hk : H[tk]? = some .tok) (hy : srcP s (aev fr y) H = some (l2.map c))
    (hu : P.underlying t = some (.slice e)) (hti : tinf P e = some (s, b, some z)) (hz : (zeroCs z).length = s) (hss : sliceStr P u = true) (happ : app b l l2 = some m) (hM : H1 = H.set tk .dead ++ [.tok]) :
    OpS P ⟨dst, .call ⟨.builtin .append, #[x, y], #[t, u]⟩, ty, pos, after, guard⟩ fr H (Det (.sl s (m.map c) (.tk H.length)) H1) := by
  obtain ⟨h1, h2, rfl⟩ := app_some happ
  refine opS_append 1 ⟨hss, ?_⟩
  simp only [hu, hti, hy, hx, List.length_map]
  refine ⟨hz, trivial, hk, h1, h2, ?_, hM.symm⟩
  rw [List.map_append]; exact .refl _
theorem src_sl {s : Nat} {l : List α} {k : Tk} {x : AV} (h : x = .sl s (l.map c) k) : srcP s x H = some (l.map c) := by subst h; simp only [srcP, if_true]
/-- A row of so many, by value. -/
theorem o_make0 {t e : TypeId} {x y : Operand} {s b : Nat} {z : Value} {k1 k2 : IntKind} {n : Int} {a : α} {m : List α} (hu : P.underlying t = some (.slice e)) (hti : tinf P e = some (s, b, some z)) (hz : (zeroCs z).length = s)
    (hx : aev fr x = .sc (.int k1 n)) (hy : aev fr y = .sc (.int k2 n)) (ha : (zeroCs z).mapM AV.pv = some (c a)) (hm : mks b a n = some m) :
    OpS P ⟨dst, .makeSlice t x y, ty, pos, after, guard⟩ fr H (Det (.sl s (m.map c) .ex) H) := opS_makeSlice 0 (by
  obtain ⟨h0, h1, h2, rfl⟩ := mks_some hm
  simp only [aMake, hu, hti, hx, hy, ha]
  refine ⟨hz, h0, trivial, h1, h2, ?_, rfl⟩
  rw [List.map_replicate]; exact .refl _)
theorem azeros_rep {zc : List AV} {cs : List PV} (h : zc = cs.map PV.av) (n : Nat) : azeros zc n = (List.replicate n cs).flatten.map PV.av := by
  induction n with
  | zero => rfl
  | succ n ih => rw [azeros, ih, List.replicate_succ, List.flatten_cons, List.map_append, h]
/-- A row of so many, of one's own. -/
theorem o_make2 {t e : TypeId} {x y : Operand} {s b : Nat} {z : Value} {k1 k2 : IntKind} {n : Int} {a : α} {m : List α} {H1 : Mem} (hu : P.underlying t = some (.slice e)) (hti : tinf P e = some (s, b, some z)) (hz : (zeroCs z).length = s)
    (hx : aev fr x = .sc (.int k1 n)) (hy : aev fr y = .sc (.int k2 n)) (ha : zeroCs z = (c a).map PV.av) (hm : mks b a n = some m) (hM : H1 = H ++ [.cells ((m.map c).flatten.map PV.av)]) :
    OpS P ⟨dst, .makeSlice t x y, ty, pos, after, guard⟩ fr H (Det (.hs H.length 0 m.length m.length s) H1) := opS_makeSlice 2 (by
  obtain ⟨h0, h1, h2, rfl⟩ := mks_some hm
  simp only [aMake, hu, hti, hx, hy]
  refine ⟨hz, h0, trivial, h1, h2, ?_⟩
  show Det _ H1 (.hs H.length 0 n.toNat n.toNat s) (H ++ [.cells (azeros (zeroCs z) n.toNat)])
  rw [azeros_rep ha, hM, List.map_replicate, List.length_replicate]
  exact ⟨.refl _, rfl⟩)
end

/-! Rows of one's own -/

section
variable {α : Type} {c : α → List PV} {z : Nat}
theorem flat_len (hz : ∀ a, (c a).length = z) (l : List α) : ((l.map c).flatten.map PV.av).length = l.length * z := by
  rw [List.length_map, flatten_length (z := z) (by intro e he; obtain ⟨a, _, rfl⟩ := List.mem_map.1 he; exact hz a), List.length_map]
theorem flat_set (hz : ∀ a, (c a).length = z) : ∀ {l : List α} {i : Nat} {a a' : α} {j : Nat} {p : PV}, l[i]? = some a → j < z → c a' = (c a).set j p → ((l.map c).flatten).set (i * z + j) p = ((l.set i a').map c).flatten
  | [], i, a, a', j, p, h, hj, hc => by simp at h
  | b :: l, 0, a, a', j, p, h, hj, hc => by
    simp at h; subst h
    rw [List.map_cons, List.flatten_cons, List.set_cons_zero, List.map_cons, List.flatten_cons, hc, Nat.zero_mul, Nat.zero_add, List.set_append_left _ _ (by rw [hz]; exact hj)]
  | b :: l, i + 1, a, a', j, p, h, hj, hc => by
    rw [List.getElem?_cons_succ] at h
    rw [List.map_cons, List.flatten_cons, List.set_cons_succ, List.map_cons, List.flatten_cons, List.set_append_right _ _ (by rw [hz, Nat.add_mul]; omega), hz, show (i + 1) * z + j - z = i * z + j by rw [Nat.add_mul]; omega, flat_set hz h hj hc]
theorem setAt_mid (C : List AV) : ∀ (A B vs : List AV), B.length = vs.length → setAt (A ++ (B ++ C)) A.length vs = A ++ (vs ++ C)
  | A, [], [], _ => rfl
  | A, b :: B, v :: vs, h => by
    have e1 : (A ++ (b :: B ++ C)).set A.length v = (A ++ [v]) ++ (B ++ C) := by
      rw [List.set_append_right _ _ (Nat.le_refl _), Nat.sub_self]; simp
    have e2 : A.length + 1 = (A ++ [v]).length := by simp
    rw [setAt, e1, e2, setAt_mid C (A ++ [v]) B vs (by simpa using h)]
    simp
  | A, [], v :: vs, h => by simp at h
  | A, b :: B, [], h => by simp at h
theorem o_indexAddrO {t e : TypeId} {x y : Operand} {s b : Nat} {zz : Option Value} {l : List α} {id n mc : Nat} {kk : IntKind} {i : Int} {a : α} (hu : P.underlying t = some (.slice e)) (hti : tinf P e = some (s, b, zz)) (hx : aev fr x = .hs id 0 n mc s)
    (hy : aev fr y = .sc (.int kk i)) (hn : l.length = n) (hi : idx l i = some a) : OpS P ⟨dst, .indexAddr t x y, ty, pos, after, guard⟩ fr H (Det (.pt id (i.toNat * s)) H) := by
  obtain ⟨h0, h1⟩ := idx_lt hi
  have := o_indexAddrH (P := P) (fr := fr) (H := H) (dst := dst) (ty := ty) (pos := pos) (after := after) (guard := guard) hu hti hx hy h0 (by rw [← hn]; exact h1)
  rw [Nat.zero_add] at this
  exact this
/-- What is left in memory, told with less. -/
theorem OpS.memle {o : Oper} {r : AV} {H1 : Mem} {id : Nat} {cs cs' : List AV} (h : OpS P o fr H (Det r H1)) (hid : H1[id]? = some (.cells cs)) (hl : ALe cs cs') : OpS P o fr H (Det r (H1.set id (.cells cs'))) := fun g w ev h1 h2 =>
  Ls.mono (fun v w' s => by
    obtain ⟨r', H', g', ⟨k1, rfl⟩, hv, hm, he, hn⟩ := s
    exact ⟨r', _, g', ⟨k1, rfl⟩, by rw [List.length_set]; exact hv, hm.le hid hl, he, by rw [List.length_set]; exact hn⟩) (h g w ev h1 h2)

theorem ALe.set {cs : List AV} {v v' : AV} (h : AVLe v v') : ∀ (k : Nat), ALe (cs.set k v) (cs.set k v') := by
  induction cs with
  | nil => intro k; exact trivial
  | cons a cs ih =>
    intro k
    cases k with
    | zero => exact ⟨h, .refl _⟩
    | succ k => exact ⟨.refl _, ih k⟩

/-- A field of an element. -/
theorem o_storeO {t : TypeId} {x y : Operand} {b : Nat} {zz : Option Value} {id off j : Nat} {l m : List α} {i : Int} {a a' : α} {p : PV} {v : AV} {H1 : Mem} (hti : tinf P t = some (1, b, zz)) (hx : aev fr x = .pt id off) (ho : off = i.toNat * z + j) (hy : aev fr y = v)
    (hm : H[id]? = some (.cells ((l.map c).flatten.map PV.av))) (hz : ∀ a, (c a).length = z) (hi : idx l i = some a) (hj : j < z) (hs : v.cells = [v]) (hf : v.flat = true) (hce : v.cellish = true) (hle : AVLe v p.av) (hc : c a' = (c a).set j p)
    (hu : updL l i a' = some m) (hM : H1 = H.set id (.cells ((m.map c).flatten.map PV.av))) :
    OpS P ⟨dst, .store t x y, ty, pos, after, guard⟩ fr H (Det undefA H1) := by
  obtain ⟨_, _, rfl⟩ := updL_some hu
  have h1 := (idx_some hi).2
  have hlt := lt_of_get h1
  have hmul := Nat.mul_le_mul_right z (show i.toNat + 1 ≤ l.length by omega)
  rw [Nat.add_mul, Nat.one_mul] at hmul
  have base := o_store (P := P) (fr := fr) (H := H) (dst := dst) (ty := ty) (pos := pos) (after := after) (guard := guard) (t := t) (x := x) (y := y) (H1 := H.set id (.cells (((l.map c).flatten.map PV.av).set off v))) (v := v) hti hx hy hm (by decide) hf (by rw [hs]; rfl)
    (by rw [hs]; simp [hce]) (by rw [flat_len hz, ho]; omega) (by rw [hs]; rfl) rfl
  have := base.memle (id := id) (cs' := ((l.map c).flatten.map PV.av).set off p.av) (by rw [List.getElem?_set_self (lt_of_get hm)]) (ALe.set hle _)
  rw [List.set_set] at this
  rw [hM]
  have e : ((l.map c).flatten.map PV.av).set off p.av = ((l.set i.toNat a').map c).flatten.map PV.av := by
    rw [← flat_set hz h1 hj hc, ho, List.map_set]
  rw [e] at this
  exact this
theorem mapM_flat (hp : ∀ a, ((c a).map PV.av).mapM AV.pv = some (c a)) (l : List α) : ((l.map c).flatten.map PV.av).mapM AV.pv = some (l.map c).flatten := by
  induction l with
  | nil => rfl
  | cons a l ih => rw [List.map_cons, List.flatten_cons, List.map_append, List.mapM_append, hp, ih]; rfl
theorem chunk_flat (hz : ∀ a, (c a).length = z) (l : List α) : chunk z l.length (((l.map c).flatten.drop 0).take (l.length * z)) = l.map c := by
  rw [List.drop_zero, List.take_of_length_le (by have := flat_len hz l; rw [List.length_map] at this; omega)]
  induction l with
  | nil => rfl
  | cons a l ih => rw [List.length_cons, chunk, List.map_cons, List.flatten_cons, List.take_left' (hz a), List.drop_left' (hz a), ih]

/-- Slot by slot: told with less, or a row that is one's own no more. -/
def FrzL (fr : Frm) (id n s : Nat) (rows : List (List PV)) : List (Nat × AV) → Prop
  | [] => True
  | (d, v) :: q => (AVLe (fr d) v ∨ (∃ mc, fr d = .hs id 0 n mc s) ∧ v = .sl s rows .no) ∧ FrzL fr id n s rows q

theorem Reb.frz {N n0 : Nat} {H : Mem} {id n : Nat} {l : List α} {fl : List (Nat × AV)} (hz : ∀ a, (c a).length = z) (hp : ∀ a, ((c a).map PV.av).mapM AV.pv = some (c a)) (hid : H[id]? = some (.cells ((l.map c).flatten.map PV.av))) (hn : l.length = n)
    (h : FrzL fr id n z (l.map c) fl) : Reb N n0 fr (Frm.of fl) H (H.set id .dead) := fun g w tmps hn0 hf hm => by
  subst hn
  obtain ⟨hm1, hg1⟩ := hm.freeze hid
  refine ⟨_, ⟨hf.size, ?_⟩, hm1, ⟨⟨hg1.ro, fun i hi => hg1.mu i (by omega)⟩, fun b _ ho => ⟨ho, rfl⟩, Nat.le_refl _, rfl, rfl, rfl⟩, by simpa using hn0⟩
  intro t
  have hlen : (H.set id Ent.dead).length = H.length := by simp
  rw [hlen]
  have hv := hf.vr t
  generalize tmps.getD t undef = u at hv
  induction fl with
  | nil => exact .any _
  | cons p r ih =>
    obtain ⟨d, v⟩ := p
    obtain ⟨h1, h2⟩ := h
    by_cases e : t = d
    · subst e
      simp only [Frm.of, if_true]
      rcases h1 with h1 | ⟨⟨mc, h1⟩, rfl⟩
      · exact h1 _ _ _ (hv.mono hg1 (Nat.le_refl _))
      · rw [h1] at hv
        generalize hq : l.length = q at hv
        cases hv with
        | hs _ _ _ _ _ cap hidl hll hmc hcap =>
          have := freeze_row (n := H.length) (off := 0) (len := q) (s := z) (cap := cap) hm hid (mapM_flat hp l) (by rw [flat_len hz, hq]; omega) (Nat.le_trans hll hmc)
          rw [← hq, chunk_flat hz] at this
          rw [← hq]; exact this
        | hn _ _ _ a hidl =>
          have : l = [] := List.eq_nil_of_length_eq_zero hq
          subst this
          cases a with
          | none => exact .nil z .no fun t e => by cases e
          | some a => exact VR.sl z [] .no a 0 (fun _ => undef) (.inl rfl) (Nat.le_refl _) (fun e he => by cases he) (fun k p hk => by simp at hk) trivial
    · simp only [Frm.of, if_neg e]
      exact ih h2
end

theorem o_buildSlice0 {t e : TypeId} {len : Nat} {ps : Array (Nat × Operand)} {s b : Nat} {z : Value} {cs : List AV} {pcs : List PV} {r : AV} (hu : P.underlying t = some (.slice e)) (hti : tinf P e = some (s, b, some z)) (hz : (zeroCs z).length = s)
    (hn : len * s ≤ 16777216) (hf : afill (fun i => some (i * s, s)) (azeros (zeroCs z) len) (ps.toList.map fun x => (x.1, aev fr x.2)) = some cs) (hp : cs.mapM AV.pv = some pcs) (hr : AVLe (.sl s (chunk s len pcs) .ex) r) :
    OpS P ⟨dst, .buildSlice t len ps, ty, pos, after, guard⟩ fr H (Det r H) := opS_buildSlice 0 (by simp only [aBuildSlice, hu, hti, hf, hp]; exact ⟨hz, hn, hr, rfl⟩)
theorem o_buildSlice2 {t e : TypeId} {len : Nat} {ps : Array (Nat × Operand)} {s b : Nat} {z : Value} {cs : List AV} {H1 : Mem} (hu : P.underlying t = some (.slice e)) (hti : tinf P e = some (s, b, some z)) (hz : (zeroCs z).length = s)
    (hn : len * s ≤ 16777216) (hf : afill (fun i => some (i * s, s)) (azeros (zeroCs z) len) (ps.toList.map fun x => (x.1, aev fr x.2)) = some cs) (hM : H1 = H ++ [.cells cs]) :
    OpS P ⟨dst, .buildSlice t len ps, ty, pos, after, guard⟩ fr H (Det (.hs H.length 0 len len s) H1) := opS_buildSlice 2 (by simp only [aBuildSlice, hu, hti, hf]; exact ⟨hz, hn, .refl _, hM.symm⟩)
theorem o_build {t : TypeId} {ps : Array (Nat × Operand)} {fs : Array Field} {s b : Nat} {z : Value} {pl : Nat → Option (Nat × Nat)} {cs : List AV} {r : AV} (hti : tinf P t = some (s, b, some z)) (hu : P.underlying t = some (.struct fs))
    (hpl : ∀ i, fplace P fs i = pl i) (hall : fs.all (fun f => (tinf P f.type).isSome) = true) (hf : afill pl (zeroCs z) (ps.toList.map fun x => (x.1, aev fr x.2)) = some cs) (hr : AVLe (.ag cs) r) :
    OpS P ⟨dst, .build t ps, ty, pos, after, guard⟩ fr H (Det r H) := opS_build (by
  have : fplace P fs = pl := funext hpl
  simp only [aBuild, hti, hu, this, hf]
  exact ⟨hall, hr, rfl⟩)

theorem o_call {f : FuncId} {xs : Array Operand} {ats : Array TypeId} {args : List AV} {r0 r : AV} {H1 : Mem} (hc : ACalls P f args H fun r' H' => r' = r0 ∧ H' = H1) (ha : ALe (xs.toList.map (aev fr)) args) (hr : AVLe r0 r) :
    OpS P ⟨dst, .call ⟨.value (.func f), xs, ats⟩, ty, pos, after, guard⟩ fr H (Det r H1) := opS_call ((ACalls.le ha hc).mono fun _ _ ⟨e1, e2⟩ => by subst e1 e2; exact ⟨hr, rfl⟩)
end

theorem reb_done {P : Program} {fn : Func} {N n0 : Nat} {fr fr0 : Frm} {M M0 : Mem} {R : AV → Mem → Prop} (h : Reb N n0 fr fr0 M M0) (h2 : ∃ fr1 H', Reb N n0 fr0 fr1 M0 H' ∧ resS P fn fr1 H' R) :
    ∃ fr1 H', Reb N n0 fr fr1 M H' ∧ resS P fn fr1 H' R := by
  obtain ⟨fr1, H', a, b⟩ := h2
  exact ⟨fr1, H', h.trans a, b⟩
theorem done_tmp {P : Program} {fn : Func} {N n0 : Nat} {t : Tmp} {fr : Frm} {M H1 : Mem} {r0 : AV} (hr : fn.results = #[.tmp t]) (h : AVLe (fr t) r0) (hp : H1 <+: M) :
    ∃ fr1 H', Reb N n0 fr fr1 M H' ∧ resS P fn fr1 H' fun r M => AVLe r r0 ∧ H1 <+: M := fin_here (resS_tmp hr ⟨h, hp⟩)
theorem done_none {P : Program} {fn : Func} {N n0 : Nat} {fr : Frm} {M H1 : Mem} (hr : fn.results = #[]) (hp : H1 <+: M) :
    ∃ fr1 H', Reb N n0 fr fr1 M H' ∧ resS P fn fr1 H' fun r M => AVLe r (.tp []) ∧ H1 <+: M := fin_here (resS_none hr ⟨.refl _, hp⟩)
theorem done_list {P : Program} {fn : Func} {N n0 : Nat} {rs : List ResultVar} {avs : List AV} {fr : Frm} {M H1 : Mem} {r0 : AV} (hr : fn.results = rs.toArray) (hl : avs.length ≠ 1) (ha : aRess P fr M rs avs) (h : AVLe (.tp avs) r0) (hp : H1 <+: M) :
    ∃ fr1 H', Reb N n0 fr fr1 M H' ∧ resS P fn fr1 H' fun r M => AVLe r r0 ∧ H1 <+: M := fin_here (resS_list hr hl ha ⟨h, hp⟩)
section
variable {P : Program} {fr : Frm} {M : Mem} {rs : List ResultVar} {as : List AV} {r : AV}
theorem ar_nil : aRess P fr M [] [] := trivial
theorem ar_tmp {t : Nat} (h : fr t = r) (h2 : aRess P fr M rs as) : aRess P fr M (.tmp t :: rs) (r :: as) := ⟨h, h2⟩
end

end Go.Proofs.Yteclchefihcjkaa.Am
