/- Rows of one's own: parts of them, cut, cleared. -/
import Derived.Test.YteclchefihcjkaaM21
namespace Go.Proofs.Yteclchefihcjkaa.Am
open Go
set_option linter.unusedVariables false

theorem MR.fewer {g : Gh} {H : Mem} {w : World} {id : Nat} {cs cs' : List AV} (hm : MR g H w) (hid : H[id]? = some (.cells cs)) (hl : cs' <+: cs) : MR g (H.set id (.cells cs')) w := by
  have hlen : (H.set id (Ent.cells cs')).length = H.length := by simp
  refine ⟨hm.ro, fun id' e he => ?_, fun b i hb => by rw [hlen]; exact hm.ow b i hb⟩
  rw [hlen]
  rcases get_set he with ⟨hne, he⟩ | ⟨rfl, rfl, _⟩
  · exact hm.ent id' e he
  · rcases hm.ent _ _ hid with ⟨e1, e2⟩ | ⟨h1, h2, h3, h4, h5⟩
    · exact .inl ⟨by rw [e1] at hl; exact List.prefix_nil.1 hl, e2⟩
    · refine .inr ⟨h1, h2, by have := hl.length_le; omega, h4, fun k c hc => h5 k c ?_⟩
      obtain ⟨tl, rfl⟩ := hl
      rw [List.getElem?_append_left (lt_of_get hc)]; exact hc

theorem AVLe.hsc {id k n z : Nat} (h : k ≤ n) : AVLe (.hs id 0 k n z) (.hs id 0 k k z) := fun g m v hv => by
  generalize hq : n = q at hv
  cases hv with
  | hs _ _ _ _ _ cap hid hl hmc hcap => exact .hs id 0 k k z cap hid (Nat.le_refl _) (by omega) hcap
  | hn _ _ _ a hid => exact .hn id 0 z a hid

/-- The beginning of a row of one's own comes back. -/
theorem done_cut {α : Type} {c : α → List PV} {P : Program} {fn : Func} {N n0 : Nat} {t : Tmp} {fr : Frm} {M H1 : Mem} {id k n o z : Nat} {l : List α} (hr : fn.results = #[.tmp t]) (hid : M[id]? = some (.cells ((l.map c).flatten.map PV.av))) (ht : fr t = .hs id (o * z) k (n - o) z) (hn : l.length = n) (hk : k ≤ n ∧ o = 0)
    (hp : H1.set id (.cells ((l.map c).flatten.map PV.av)) <+: M) (hlt : id < H1.length) :
    ∃ fr1 H', Reb N n0 fr fr1 M H' ∧ resS P fn fr1 H' fun r M' => AVLe r (.hs id 0 (l.take k).length (l.take k).length z) ∧ H1.set id (.cells (((l.take k).map c).flatten.map PV.av)) <+: M' := by
  obtain ⟨hk, rfl⟩ := hk
  rw [Nat.zero_mul, Nat.sub_zero] at ht
  refine ⟨fr, M.set id (.cells (((l.take k).map c).flatten.map PV.av)), fun g w tmps hn0 hf hm => ?_, resS_tmp hr ⟨?_, ?_⟩⟩
  · refine ⟨g, by rw [List.length_set]; exact hf, hm.fewer hid ?_, .refl _ _ _, by rw [List.length_set]; exact hn0⟩
    refine ⟨((l.drop k).map c).flatten.map PV.av, ?_⟩
    rw [← List.map_append, ← List.flatten_append, ← List.map_append, List.take_append_drop]
  · rw [ht, List.length_take, hn, Nat.min_eq_left hk]
    exact .hsc hk
  · have := pre_lo (i := id) (x := .cells (((l.take k).map c).flatten.map PV.av)) hp (by rw [List.length_set]; exact hlt)
    rw [List.set_set] at this
    exact this

section
variable {α : Type} {c : α → List PV} {z : Nat} {P : Program} {fr : Frm} {H : Mem} {dst : Option Nat} {ty : TypeId} {pos : String} {after : Array Edge} {guard : Option (Nat × Bool)}

/-- A part of a row of one's own. -/
theorem o_sliceHO {t e : TypeId} {x : Operand} {lo hi : Option Operand} {s b id n m k o : Nat} {zz : Option Value} {lo' hi' : Option (IntKind × Int)} (hu : P.underlying t = some (.slice e)) (hti : tinf P e = some (s, b, zz)) (hx : aev fr x = .hs id 0 n m s)
    (hl : bnd fr lo = some lo') (hh : bnd fr hi = some hi') (hs : slcH m (bd0 lo' 0) (bd0 hi' n) = some (o, k)) : OpS P ⟨dst, .slice t x lo hi none, ty, pos, after, guard⟩ fr H (Det (.hs id (o * s) k (m - o) s) H) := by
  obtain ⟨h0, h1, h2, rfl, rfl⟩ := slcH_some hs
  refine opS_slice (m := none) hl hh rfl ?_
  refine ⟨fun h => (by cases h), ?_⟩
  simp only [hu, hti, hx]
  refine ⟨trivial, h0, h1, h2, Int.le_refl _, ?_⟩
  rw [Nat.zero_add]
  exact ⟨.refl _, rfl⟩

/-- The same, its room told. -/
theorem o_sliceHO3 {t e : TypeId} {x : Operand} {lo hi mx : Option Operand} {s b id n m k o : Nat} {zz : Option Value} {lo' : Option (IntKind × Int)} {q q' : IntKind × Int} (hu : P.underlying t = some (.slice e)) (hti : tinf P e = some (s, b, zz)) (hx : aev fr x = .hs id 0 n m s)
    (hl : bnd fr lo = some lo') (hh : bnd fr hi = some (some q)) (hmx : bnd fr mx = some (some q')) (hs : slcH m (bd0 lo' 0) q.2 = some (o, k)) (hq : q.2 ≤ q'.2 ∧ q'.2 ≤ m) :
    OpS P ⟨dst, .slice t x lo hi mx, ty, pos, after, guard⟩ fr H (Det (.hs id (o * s) k (q'.2.toNat - o) s) H) := by
  obtain ⟨h0, h1, h2, rfl, rfl⟩ := slcH_some hs
  refine opS_slice hl hh hmx ?_
  refine ⟨fun _ => rfl, ?_⟩
  simp only [hu, hti, hx]
  refine ⟨trivial, h0, h1, hq.1, hq.2, ?_⟩
  rw [Nat.zero_add]
  exact ⟨.refl _, rfl⟩

theorem o_clearO {t e : TypeId} {x : Operand} {b id m k o : Nat} {zz : Value} {l : List α} {a : α} {H1 : Mem} (hu : P.underlying t = some (.slice e)) (hti : tinf P e = some (z, b, some zz)) (hzc : (zeroCs zz).length = z) (hce : (azeros (zeroCs zz) 1).all AV.cellish = true) (hzz : zeroCs zz = (c a).map PV.av)
    (hz : ∀ a, (c a).length = z) (hx : aev fr x = .hs id (o * z) k m z) (hid : H[id]? = some (.cells ((l.map c).flatten.map PV.av))) (hn : o + k ≤ l.length) (hM : H1 = H.set id (.cells (((fillL l o k a).map c).flatten.map PV.av))) :
    OpS P ⟨dst, .call ⟨.builtin .clear, #[x], #[t]⟩, ty, pos, after, guard⟩ fr H (Det (.tp []) H1) := opS_clear (by
  simp only [aClear, hu, hti, hx, hid]
  refine ⟨hzc, hce, trivial, ?_, .refl _, ?_⟩
  · rw [flat_len hz, ← Nat.add_mul]; exact Nat.mul_le_mul_right _ hn
  · rw [hM, azeros_rep hzz]
    congr 2
    have e : l = l.take o ++ ((l.drop o).take k ++ l.drop (o + k)) := by rw [← List.drop_drop, List.take_append_drop, List.take_append_drop]
    have el : o * z = (((l.take o).map c).flatten.map PV.av).length := by rw [flat_len hz, List.length_take, Nat.min_eq_left (by omega)]
    have er : List.replicate k (c a) = (List.replicate k a).map c := by rw [List.map_replicate]
    rw [er]
    conv => lhs; arg 1; rw [e]
    unfold fillL
    simp only [List.map_append, List.flatten_append, List.append_assoc]
    conv => lhs; rw [el]
    rw [setAt_mid]
    rw [flat_len hz, flat_len hz, List.length_replicate, List.length_take, List.length_drop]
    congr 1
    omega)
theorem o_indexAddrP {t e : TypeId} {x y : Operand} {s b : Nat} {zz : Option Value} {l : List α} {id n m o : Nat} {kk : IntKind} {i : Int} {a : α} (hu : P.underlying t = some (.slice e)) (hti : tinf P e = some (s, b, zz)) (hx : aev fr x = .hs id (o * s) n m s)
    (hy : aev fr y = .sc (.int kk i)) (hi : idxP l o n i = some a) : OpS P ⟨dst, .indexAddr t x y, ty, pos, after, guard⟩ fr H (Det (.pt id ((o + i.toNat) * s)) H) := by
  obtain ⟨h0, h1, _⟩ := idxP_some hi
  have := o_indexAddrH (P := P) (fr := fr) (H := H) (dst := dst) (ty := ty) (pos := pos) (after := after) (guard := guard) hu hti hx hy h0 h1
  rw [← Nat.add_mul] at this
  exact this
/-- Bytes of a string, the room behind them known. -/
theorem o_bytes1 {s d e : TypeId} {x : Operand} {l : List UInt8} {H1 : Mem} (hs : P.underlying s = some .string) (hd : P.underlying d = some (.slice e)) (he : P.underlying e = some (.int .u8)) (hx : aev fr x = .sc (.string ⟨l.toArray⟩)) (hM : H1 = H ++ [.tok]) :
    OpS P ⟨dst, .convert s d x, ty, pos, after, guard⟩ fr H (Det (.sl 1 ((ofStr l).map c_u8) (.tk H.length)) H1) := opS_bytes 1 (by
  simp only [aBytes, hs, hd, he, hx, aFresh, encB_ofU8]
  exact ⟨.refl _, hM.symm⟩)
end
end Go.Proofs.Yteclchefihcjkaa.Am
