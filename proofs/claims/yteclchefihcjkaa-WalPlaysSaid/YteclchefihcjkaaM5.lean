/- Operations: arithmetic and tests, conversions, slices of slices, lengths, least and greatest. -/
import Derived.Test.YteclchefihcjkaaM4
namespace Go.Proofs.Yteclchefihcjkaa.Am
open Go

def intBin (op : BinOp) (k : IntKind) (a b : Int) : Option Value :=
  match op with
  | .add => some (.int k (k.wrap (a + b)))
  | .sub => some (.int k (k.wrap (a - b)))
  | .mul => some (.int k (k.wrap (a * b)))
  | .quo => if b = 0 then none else some (.int k (k.wrap (a.tdiv b)))
  | .rem => if b = 0 then none else some (.int k (a.tmod b))
  | .and => some (.int k (bits .and k a b))
  | .or => some (.int k (bits .or k a b))
  | .xor => some (.int k (bits .xor k a b))
  | .andNot => some (.int k (bits .andNot k a b))
  | .eql => some (.bool (a == b))
  | .neq => some (.bool (a != b))
  | .lss => some (.bool (a < b))
  | .leq => some (.bool (a ≤ b))
  | .gtr => some (.bool (a > b))
  | .geq => some (.bool (a ≥ b))
  | _ => none

def strBin (op : BinOp) (a b : ByteArray) : Option Value :=
  match op with
  | .eql => some (.bool (a.data.toList == b.data.toList))
  | .neq => some (.bool (!(a.data.toList == b.data.toList)))
  | .lss => some (.bool (Op.bytesLess a.data.toList b.data.toList))
  | .add => if a.size + b.size ≤ 9223372036854775807 then some (.string (a ++ b)) else none
  | _ => none

/-- Is it nil? Of a slice, a pointer, a map. -/
def nilSl : AV → Option Bool
  | .sl _ (_ :: _) _ => some false
  | .hs _ _ (_ + 1) _ _ => some false
  | .sc (.slice none _ _) => some true
  | _ => none
def nilPt : AV → Option Bool
  | .pt _ _ => some false
  | .ep _ => some false
  | .sc (.pointer none) => some true
  | _ => none
def nilMp : AV → Option Bool
  | .mp _ => some false
  | .sc (.map none) => some true
  | _ => none

def twoNil : Option Bool → Option Bool → Option Bool
  | some true, some b => some b
  | some false, some true => some false
  | _, _ => none

def aEq (P : Program) (t : TypeId) (x y : AV) : Option Bool :=
  match P.underlying t with
  | some .bool => (match x, y with | .sc (.bool a), .sc (.bool b) => some (a == b) | _, _ => none)
  | some (.slice _) => twoNil (nilSl x) (nilSl y)
  | some (.pointer _) => twoNil (nilPt x) (nilPt y)
  | some (.map _ _) => twoNil (nilMp x) (nilMp y)
  | _ => none

def aBin (P : Program) (op : BinOp) (t : TypeId) (x y : AV) : Option Value :=
  match x, y with
  | .sc (.int k a), .sc (.int k' b) =>
    (match op with
    | .shl => if 0 ≤ b then some (.int k (k.wrap (a * 2 ^ min b.toNat k.bits))) else none
    | .shr => if 0 ≤ b then some (.int k (a / 2 ^ min b.toNat k.bits)) else none
    | op => if k = k' then intBin op k a b else none)
  | .sc (.string a), .sc (.string b) => strBin op a b
  | x, y =>
    (match op with
    | .eql => (aEq P t x y).map .bool
    | .neq => (aEq P t x y).map fun b => .bool (!b)
    | _ => none)

theorem nilSl_spec {g : Gh} {n : Nat} {x : AV} {v : Value} {b : Bool} (hv : VR g n x v) (h : nilSl x = some b) : ∃ a l c, v = .slice a l c ∧ a.isNone = b := by
  cases hv with
  | sc v =>
    cases v with
    | slice a l c => cases a with
      | none => simp [nilSl] at h; subst h; exact ⟨_, _, _, rfl, rfl⟩
      | some a => simp [nilSl] at h
    | _ => simp [nilSl] at h
  | sl z es k a cap f h1 h2 h3 h4 h5 =>
    refine ⟨_, _, _, rfl, ?_⟩
    cases es <;> cases k <;> simp [nilSl] at h <;> subst h <;> rfl
  | hs id off len mc s cap => cases len <;> simp [nilSl] at h; subst h; exact ⟨_, _, _, rfl, rfl⟩
  | _ => simp [nilSl] at h

theorem nilPt_spec {g : Gh} {n : Nat} {x : AV} {v : Value} {b : Bool} (hv : VR g n x v) (h : nilPt x = some b) : ∃ a, v = .pointer a ∧ a.isNone = b := by
  cases hv with
  | sc v =>
    cases v with
    | pointer a => cases a with
      | none => simp [nilPt] at h; subst h; exact ⟨_, rfl, rfl⟩
      | some a => simp [nilPt] at h
    | _ => simp [nilPt] at h
  | pt => simp [nilPt] at h; subst h; exact ⟨_, rfl, rfl⟩
  | ep => simp [nilPt] at h; subst h; exact ⟨_, rfl, rfl⟩
  | _ => simp [nilPt] at h

theorem nilMp_spec {g : Gh} {n : Nat} {x : AV} {v : Value} {b : Bool} (hv : VR g n x v) (h : nilMp x = some b) : ∃ a, v = .map a ∧ a.isNone = b := by
  cases hv with
  | sc v =>
    cases v with
    | map a => cases a with
      | none => simp [nilMp] at h; subst h; exact ⟨_, rfl, rfl⟩
      | some a => simp [nilMp] at h
    | _ => simp [nilMp] at h
  | mp => simp [nilMp] at h; subst h; exact ⟨_, rfl, rfl⟩
  | _ => simp [nilMp] at h

theorem twoNil_spec {a b : Option Bool} {r : Bool} (h : twoNil a b = some r) : ∃ p q, a = some p ∧ b = some q ∧ ((p = true ∧ r = q) ∨ (p = false ∧ q = true ∧ r = false)) := by
  unfold twoNil at h
  split at h
  · rename_i q; simp at h; subst h; exact ⟨_, _, rfl, rfl, .inl ⟨rfl, rfl⟩⟩
  · simp at h; subst h; exact ⟨_, _, rfl, rfl, .inr ⟨rfl, rfl, rfl⟩⟩
  · cases h

theorem eq_slice {P : Program} {t e : TypeId} (ht : P.underlying t = some (.slice e)) (d : Nat) {a a' : Option Addr} {l c l' c' : Nat} {b : Bool}
    (h3 : (a.isNone = true ∧ b = a'.isNone) ∨ (a.isNone = false ∧ a'.isNone = true ∧ b = false)) (w : World) : (Op.equalIn (d + 1) t (.slice a l c) (.slice a' l' c')).run P w = .ok b w := by
  rcases h3 with ⟨h3, rfl⟩ | ⟨h3, h4, rfl⟩
  · cases a with
    | none => simp [Op.equalIn, run_underlying ht]
    | some a => cases h3
  · cases a with
    | none => cases h3
    | some a => cases a' with
      | none => simp [Op.equalIn, run_underlying ht]
      | some a' => cases h4

theorem eq_pointer {P : Program} {t e : TypeId} (ht : P.underlying t = some (.pointer e)) (d : Nat) {a a' : Option Addr} {b : Bool}
    (h3 : (a.isNone = true ∧ b = a'.isNone) ∨ (a.isNone = false ∧ a'.isNone = true ∧ b = false)) (w : World) : (Op.equalIn (d + 1) t (.pointer a) (.pointer a')).run P w = .ok b w := by
  rcases h3 with ⟨h3, rfl⟩ | ⟨h3, h4, rfl⟩
  · cases a with
    | none => simp [Op.equalIn, run_underlying ht]
    | some a => cases h3
  · cases a with
    | none => cases h3
    | some a => cases a' with
      | none => simp [Op.equalIn, run_underlying ht]
      | some a' => cases h4

theorem eq_map {P : Program} {t k e : TypeId} (ht : P.underlying t = some (.map k e)) (d : Nat) {a a' : Option Nat} {b : Bool}
    (h3 : (a.isNone = true ∧ b = a'.isNone) ∨ (a.isNone = false ∧ a'.isNone = true ∧ b = false)) (w : World) : (Op.equalIn (d + 1) t (.map a) (.map a')).run P w = .ok b w := by
  rcases h3 with ⟨h3, rfl⟩ | ⟨h3, h4, rfl⟩
  · cases a with
    | none => simp [Op.equalIn, run_underlying ht]
    | some a => cases h3
  · cases a with
    | none => cases h3
    | some a => cases a' with
      | none => simp [Op.equalIn, run_underlying ht]
      | some a' => cases h4

theorem run_eq {P : Program} {t : TypeId} {u v : Value} {b : Bool} {w : World} (hr : (Op.equalIn 10000 t u v).run P w = .ok b w) (h1 : binOp .eql t u v = do pure (.bool (← Op.equal t u v))) (h2 : binOp .neq t u v = do pure (.bool (!(← Op.equal t u v)))) :
    (binOp .eql t u v).run P w = .ok (.bool b) w ∧ (binOp .neq t u v).run P w = .ok (.bool (!b)) w := by
  rw [h1, h2]
  simp only [Op.equal, Op.maxDepth, Sem.run_bind, hr, Result.andThen_ok, Sem.run_pure, and_self]

theorem run_aEq {P : Program} {t : TypeId} {x y : AV} {b : Bool} (h : aEq P t x y = some b) {g : Gh} {n : Nat} {u v : Value} (hu : VR g n x u) (hv : VR g n y v) (w : World) :
    (∀ op p q, eqGuard op t p q u v = pure ()) ∧ (binOp .eql t u v).run P w = .ok (.bool b) w ∧ (binOp .neq t u v).run P w = .ok (.bool (!b)) w := by
  unfold aEq at h
  cases ht : P.underlying t with
  | none => rw [ht] at h; cases h
  | some d =>
    rw [ht] at h
    cases d with
    | bool =>
      simp only at h
      split at h
      · rename_i a b'
        simp at h; subst h
        have e1 := VR_sc hu; have e2 := VR_sc hv
        subst e1; subst e2
        exact ⟨fun op p q => by simp [go_sem], run_eql_bool w t a b' ht, run_neq_bool w t a b' ht⟩
      · cases h
    | slice e =>
      obtain ⟨p, q, h1, h2, h3⟩ := twoNil_spec h
      obtain ⟨a, l, c, rfl, rfl⟩ := nilSl_spec hu h1
      obtain ⟨a', l', c', rfl, rfl⟩ := nilSl_spec hv h2
      exact ⟨fun op p q => by simp [go_sem], run_eq (eq_slice ht 9999 h3 w) rfl rfl⟩
    | pointer e =>
      obtain ⟨p, q, h1, h2, h3⟩ := twoNil_spec h
      obtain ⟨a, rfl, rfl⟩ := nilPt_spec hu h1
      obtain ⟨a', rfl, rfl⟩ := nilPt_spec hv h2
      exact ⟨fun op p q => by simp [go_sem], run_eq (eq_pointer ht 9999 h3 w) rfl rfl⟩
    | map kt e =>
      obtain ⟨p, q, h1, h2, h3⟩ := twoNil_spec h
      obtain ⟨a, rfl, rfl⟩ := nilMp_spec hu h1
      obtain ⟨a', rfl, rfl⟩ := nilMp_spec hv h2
      exact ⟨fun op p q => by simp [go_sem], run_eq (eq_map ht 9999 h3 w) rfl rfl⟩
    | _ => cases h

theorem run_intBin {P : Program} {op : BinOp} {t : TypeId} {k : IntKind} {a b : Int} {v : Value} (hs : op ≠ .shl) (hr : op ≠ .shr) (h : intBin op k a b = some v) (w : World) :
    (binOp op t (.int k a) (.int k b)).run P w = .ok v w := by
  cases op <;> simp only [intBin, Option.some.injEq] at h <;> first | (exact absurd rfl hs) | (exact absurd rfl hr) | (subst h; simp [binOp, Op.intArith, Op.intCmp, Op.intBits, bits]; done) | cases h | skip
  all_goals
    split at h
    · cases h
    · rename_i h0
      simp at h; subst h
      simp [binOp, Op.intDiv, h0]

theorem run_strBin {P : Program} {op : BinOp} {t : TypeId} {a b : ByteArray} {v : Value} (h : strBin op a b = some v) (w : World) :
    (binOp op t (.string a) (.string b)).run P w = .ok v w := by
  cases op <;> simp only [strBin, Option.some.injEq] at h <;> first | (subst h; simp [binOp, Op.stringOp, ByteArray.toList_eq]; done) | cases h | skip
  split at h
  · rename_i h0
    simp at h; subst h
    rw [show binOp .add t (.string a) (.string b) = Op.stringOp .add a b from by simp [binOp]]
    exact run_string_add_sum w a b h0
  · cases h

section
variable {P : Program} {fr : Frm} {H : Mem} {K : AV → Mem → Prop} {dst : Option Nat} {ty : TypeId} {pos : String} {after : Array Edge} {guard : Option (Nat × Bool)}

theorem opS_binOp {op : BinOp} {t t' : TypeId} {x y : Operand} {v : Value} (hv : aBin P op t (aev fr x) (aev fr y) = some v) (h : K (.sc v) H) : OpS P ⟨dst, .binOp op t x y t', ty, pos, after, guard⟩ fr H K := fun g w ev hop hm => by
  have hx := hop x (by simp [Op.operands])
  have hy := hop y (by simp [Op.operands])
  have run : (eqGuard op t x y (ev x) (ev y)).run P w = .ok () w ∧ (binOp op t (ev x) (ev y)).run P w = .ok v w := by
    generalize aev fr x = ax at *
    generalize aev fr y = ay at *
    unfold aBin at hv
    split at hv
    · rename_i k a k' b
      have e1 := VR_sc hx; have e2 := VR_sc hy
      rw [e1, e2]
      refine ⟨by simp [go_sem], ?_⟩
      split at hv
      · split at hv
        · rename_i h0
          simp at hv; subst hv
          simp only [binOp_shl, shift_shl_any _ _ _ _ h0, Sem.run_pure]
        · cases hv
      · split at hv
        · rename_i h0
          simp at hv; subst hv
          simp only [binOp_shr, shift_shr_any _ _ _ _ h0, Sem.run_pure]
        · cases hv
      · rename_i n1 n2
        split at hv
        · rename_i hk
          subst hk
          exact run_intBin n1 n2 hv w
        · cases hv
    · rename_i a b
      have e1 := VR_sc hx; have e2 := VR_sc hy
      rw [e1, e2]
      exact ⟨by simp [go_sem], run_strBin hv w⟩
    · split at hv
      · cases hq : aEq P t ax ay with
        | none => rw [hq] at hv; cases hv
        | some b =>
          rw [hq] at hv; simp at hv; subst hv
          obtain ⟨h1, h2, _⟩ := run_aEq hq hx hy w
          exact ⟨by rw [h1]; rfl, h2⟩
      · cases hq : aEq P t ax ay with
        | none => rw [hq] at hv; cases hv
        | some b =>
          rw [hq] at hv; simp at hv; subst hv
          obtain ⟨h1, _, h3⟩ := run_aEq hq hx hy w
          exact ⟨by rw [h1]; rfl, h3⟩
      · cases hv
  have : (execOp ev ⟨dst, .binOp op t x y t', ty, pos, after, guard⟩).run P w = .ok (.value v) w := by
    simp only [execOp, Sem.run_bind, run.1, run.2, Result.andThen_ok, Sem.run_pure]
  rw [this]
  exact sr_here hm (.sc _) h

def aUn (op : UnOp) (x : AV) : Option Value :=
  match op, x with
  | .not, .sc (.bool b) => some (.bool !b)
  | .neg, .sc (.int k n) => some (.int k (k.wrap (0 - n)))
  | .xor, .sc (.int k n) => some (.int k (bits .xor k (if k.signed then -1 else k.max) n))
  | _, _ => none

theorem opS_unOp {op : UnOp} {t : TypeId} {x : Operand} {v : Value} (hv : aUn op (aev fr x) = some v) (h : K (.sc v) H) : OpS P ⟨dst, .unOp op t x, ty, pos, after, guard⟩ fr H K := fun g w ev hop hm => by
  have hx := hop x (by simp [Op.operands])
  have : (execOp ev ⟨dst, .unOp op t x, ty, pos, after, guard⟩).run P w = .ok (.value v) w := by
    unfold aUn at hv
    split at hv
    · rename_i b e; rw [e] at hx; simp at hv; subst hv
      simp [execOp, VR_sc hx, Op.unary]
    · rename_i k n e; rw [e] at hx; simp at hv; subst hv
      simp [execOp, VR_sc hx, Op.unary, Op.intArith]
    · rename_i k n e; rw [e] at hx; simp at hv; subst hv
      simp [execOp, VR_sc hx, Op.unary, Op.intBits, bits]
    · cases hv
  rw [this]
  exact sr_here hm (.sc _) h

/-! conversions -/

def encB (b : UInt8) : List PV := [.sc (.int .u8 b.toNat)]
def byteOf : List PV → Option UInt8
  | [.sc (.int .u8 n)] => some (UInt8.ofNat n.toNat)
  | _ => none
def bytesOf (es : List (List PV)) : ByteArray := ⟨(es.filterMap byteOf).toArray⟩

def aConv (P : Program) (src dst : TypeId) (x : AV) : Option Value :=
  match P.underlying src, P.underlying dst with
  | some _, some (.int k) => (match x with | .sc (.int _ n) => some (.int k (k.wrap n)) | _ => none)
  | some .string, some .string => (match x with | .sc (.string s) => some (.string s) | _ => none)
  | some (.slice e), some .string =>
    (match P.underlying e with
    | some (.int .u8) =>
      (match x with
      | .sl z es _ => if z = 1 then (if (es.all fun e => (byteOf e).isSome) then some (.string (bytesOf es)) else none) else none
      | .sc (.slice none _ _) => some (.string .empty)
      | _ => none)
    | _ => none)
  | _, _ => none

theorem bytes_fold (ns : List Int) (s : ByteArray) : ns.foldl (fun r n => r.push (UInt8.ofNat n.toNat)) s = ⟨(s.data.toList ++ ns.map fun n => UInt8.ofNat n.toNat).toArray⟩ := by
  induction ns generalizing s with
  | nil => simp
  | cons n ns ih =>
    rw [List.foldl_cons, ih]
    congr 1
    simp [ByteArray.push]

theorem bytes_rows {ro : Nat → Nat → Option Value} {b o : Nat} {es : List (List PV)} {f : Nat → Value} (hz : ∀ e, e ∈ es → e.length = 1) (hrow : Row ro b o es.flatten f) (hb : (es.all fun e => (byteOf e).isSome) = true) :
    ∃ ns : List Int, (List.range es.length).map f = ns.map (Value.int .u8) ∧ (ns.map fun n => UInt8.ofNat n.toNat) = es.filterMap byteOf := by
  induction es generalizing o f with
  | nil => exact ⟨[], rfl, rfl⟩
  | cons e es ih =>
    simp only [List.all_cons, Bool.and_eq_true] at hb
    have he := hz e List.mem_cons_self
    obtain ⟨p, rfl⟩ : ∃ p, e = [p] := by
      cases e with
      | nil => simp at he
      | cons p e => cases e with
        | nil => exact ⟨p, rfl⟩
        | cons q e => simp at he
    have hrow' : Row ro b (o + 1) es.flatten (fun j => f (1 + j)) := by
      have := hrow.drop 1
      simpa using this
    obtain ⟨ns, h1, h2⟩ := ih (fun x hx => hz x (List.mem_cons_of_mem _ hx)) hrow' hb.2
    have h0 := hrow 0 p (by simp)
    have hp : ∃ n, p = .sc (.int .u8 n) := by
      have := hb.1
      unfold byteOf at this
      split at this
      · rename_i n heq; simp at heq; exact ⟨n, heq⟩
      · cases this
    obtain ⟨n, rfl⟩ := hp
    have hf0 : f 0 = .int .u8 n := by
      have := h0.2
      generalize f 0 = v0 at this
      cases this; rfl
    refine ⟨n :: ns, ?_, ?_⟩
    · rw [List.length_cons, List.range_succ_eq_map, List.map_cons, List.map_cons, hf0, List.map_map, ← h1]
      congr 1
      apply List.map_congr_left
      intro j _
      simp [Function.comp, Nat.add_comm]
    · rw [List.map_cons, h2, List.filterMap_cons]
      rfl

theorem opS_convert {s d : TypeId} {x : Operand} {v : Value} (hv : aConv P s d (aev fr x) = some v) (h : K (.sc v) H) : OpS P ⟨dst, .convert s d x, ty, pos, after, guard⟩ fr H K := fun g w ev hop hm => by
  have hx := hop x (by simp [Op.operands])
  have run : (convert s d (ev x)).run P w = .ok v w := by
    generalize aev fr x = ax at *
    unfold aConv at hv
    split at hv
    · rename_i u k hs hd
      split at hv
      · rename_i k' n
        simp at hv; subst hv
        rw [VR_sc hx]
        simp [convert, run_underlying hs, run_underlying hd, Conv.intToInt]
      · cases hv
    · rename_i hs hd
      split at hv
      · rename_i b
        simp at hv; subst hv
        rw [VR_sc hx]
        simp [convert, run_underlying hs, run_underlying hd]
      · cases hv
    · rename_i e hs hd
      split at hv
      · rename_i he
        split at hv
        · rename_i z es kk
          split at hv
          · rename_i hz1
            subst hz1
            split at hv
            · rename_i hall
              simp at hv; subst hv
              generalize ev x = vx at *
              cases hx with
              | nil z =>
                rw [run_convert_bytes_string w s d e none 0 0 hs he hd]
                simp [Conv.bytesToString, bytesOf]; rfl
              | sl _ _ _ a cap f hsp hcap hz hrow hk =>
                rw [run_convert_bytes_string w s d e _ _ _ hs he hd]
                obtain ⟨ns, h1, h2⟩ := bytes_rows hz hrow hall
                have hl := run_loadCells (P := P) w a es.length f (fun j hj => by
                  rw [add_plain (hsp.resolve_left (fun h0 => by subst h0; simp_all))]
                  have hfl : es.flatten.length = es.length := by rw [flatten_length hz]; omega
                  exact hm.ro _ _ _ (hrow j (es.flatten[j]'(by omega)) (List.getElem?_eq_getElem (by omega))).1)
                rw [h1] at hl
                rw [run_bytesToString w a es.length cap ns hl, bytes_fold]
                simp [bytesOf, h2, ByteArray.empty, ByteArray.emptyWithCapacity]
                rfl
            · cases hv
          · cases hv
        · rename_i l c
          simp at hv; subst hv
          rw [VR_sc hx, run_convert_bytes_string w s d e _ _ _ hs he hd]
          simp [Conv.bytesToString]
        · cases hv
      · cases hv
    · cases hv
  have : (execOp ev ⟨dst, .convert s d x, ty, pos, after, guard⟩).run P w = .ok (.value v) w := by
    simp only [execOp, Sem.run_bind, run, Result.andThen_ok, Sem.run_pure]
  rw [this]
  exact sr_here hm (.sc _) h

/-! lengths, least, greatest -/

def aLen (P : Program) (t : TypeId) (x : AV) (H : Mem) : Option Int :=
  match P.underlying t with
  | some .string => (match x with | .sc (.string s) => some s.size | _ => none)
  | some (.slice _) => (match x with | .sl _ es _ => some es.length | .hs _ _ len _ _ => some len | .sc (.slice _ n _) => some n | _ => none)
  | some (.array n _) => some n
  | some (.map _ _) => (match x with | .sc (.map none) => some 0 | .mp id => (match H[id]? with | some (.map es) => some es.length | _ => none) | _ => none)
  | _ => none

theorem b_len {a : Array TypeId} {t : TypeId} {c : Array Bool} {v : Array Value} : builtin .len a t c v = (do pure (.value (← Builtin.len_ a t v))) := rfl
theorem b_max {a : Array TypeId} {t : TypeId} {c : Array Bool} {v : Array Value} : builtin .max a t c v = (do pure (.value (← Builtin.max_ a t v))) := rfl
theorem b_min {a : Array TypeId} {t : TypeId} {c : Array Bool} {v : Array Value} : builtin .min a t c v = (do pure (.value (← Builtin.min_ a t v))) := rfl

theorem execOp_b {ev : Operand → Value} (b : Builtin) (xs : Array Operand) (ats : Array TypeId) :
    execOp ev ⟨dst, .call ⟨.builtin b, xs, ats⟩, ty, pos, after, guard⟩ = builtin b ats ty (xs.map fun | .const _ => true | _ => false) (xs.map ev) := rfl

theorem opS_len {t : TypeId} {x : Operand} {n : Int} (hn : aLen P t (aev fr x) H = some n) (h : K (.sc (.int .i64 n)) H) : OpS P ⟨dst, .call ⟨.builtin .len, #[x], #[t]⟩, ty, pos, after, guard⟩ fr H K := fun g w ev hop hm => by
  have hx := hop x (by simp [Op.operands, Call.operands])
  have run : (Builtin.len_ #[t] ty #[ev x]).run P w = .ok (.int .i64 n) w := by
    generalize aev fr x = ax at *
    unfold aLen at hn
    split at hn
    · rename_i ht
      split at hn
      · simp at hn; subst hn
        rw [VR_sc hx]
        simp [Builtin.len_, run_underlying ht, goInt]
      · cases hn
    · rename_i e ht
      split at hn
      · simp at hn; subst hn
        generalize ev x = vx at *
        cases hx with
        | nil => simp [Builtin.len_, run_underlying ht, goInt]
        | sl => simp [Builtin.len_, run_underlying ht, goInt]
      · simp at hn; subst hn
        generalize ev x = vx at *
        cases hx with
        | hs => simp [Builtin.len_, run_underlying ht, goInt]
        | hn => simp [Builtin.len_, run_underlying ht, goInt]
      · simp at hn; subst hn
        rw [VR_sc hx]
        simp [Builtin.len_, run_underlying ht, goInt]
      · cases hn
    · rename_i m e ht
      simp at hn; subst hn
      simp [Builtin.len_, run_underlying ht, goInt]
    · rename_i kt e ht
      split at hn
      · simp at hn; subst hn
        rw [VR_sc hx]
        simp [Builtin.len_, run_underlying ht, goInt]
      · rename_i id
        generalize ev x = vx at *
        cases hx with
        | mp _ hid =>
          cases he : H[id]? with
          | none => rw [he] at hn; cases hn
          | some en =>
            rw [he] at hn
            cases en with
            | map es =>
              simp at hn; subst hn
              obtain ⟨_, _, ents, clock, h1, h2⟩ := hm.ent id _ he
              simp only [Builtin.len_, Sem.run_bind, run_underlying ht, Result.andThen_ok, List.getElem?_toArray, List.getElem?_cons_zero]
              simp [getObj, Sem.run, h1, Result.andThen, goInt, h2.size]
            | _ => cases hn
      · cases hn
    · cases hn
  have : (execOp ev ⟨dst, .call ⟨.builtin .len, #[x], #[t]⟩, ty, pos, after, guard⟩).run P w = .ok (.value (.int .i64 n)) w := by
    rw [execOp_b, b_len]
    simp only [List.map_toArray, List.map_cons, List.map_nil, Sem.run_bind, run, Result.andThen_ok, Sem.run_pure]
  rw [this]
  exact sr_here hm (.sc _) h

def aMax (x y : AV) : Option Value := match x, y with | .sc (.int k a), .sc (.int _ b) => some (.int k (if b > a then b else a)) | _, _ => none
def aMin (x y : AV) : Option Value := match x, y with | .sc (.int k a), .sc (.int _ b) => some (.int k (if b < a then b else a)) | _, _ => none

theorem opS_max {ats : Array TypeId} {x y : Operand} {v : Value} (hv : aMax (aev fr x) (aev fr y) = some v) (h : K (.sc v) H) : OpS P ⟨dst, .call ⟨.builtin .max, #[x, y], ats⟩, ty, pos, after, guard⟩ fr H K := fun g w ev hop hm => by
  have hx := hop x (by simp [Op.operands, Call.operands])
  have hy := hop y (by simp [Op.operands, Call.operands])
  have : (execOp ev ⟨dst, .call ⟨.builtin .max, #[x, y], ats⟩, ty, pos, after, guard⟩).run P w = .ok (.value v) w := by
    unfold aMax at hv
    split at hv
    · rename_i k a k' b e1 e2
      rw [e1] at hx; rw [e2] at hy
      simp at hv; subst hv
      rw [execOp_b, b_max]
      simp only [List.map_toArray, List.map_cons, List.map_nil, Sem.run_bind, VR_sc hx, VR_sc hy, run_max_int2, Result.andThen_ok, Sem.run_pure]
    · cases hv
  rw [this]
  exact sr_here hm (.sc _) h

theorem opS_min {ats : Array TypeId} {x y : Operand} {v : Value} (hv : aMin (aev fr x) (aev fr y) = some v) (h : K (.sc v) H) : OpS P ⟨dst, .call ⟨.builtin .min, #[x, y], ats⟩, ty, pos, after, guard⟩ fr H K := fun g w ev hop hm => by
  have hx := hop x (by simp [Op.operands, Call.operands])
  have hy := hop y (by simp [Op.operands, Call.operands])
  have : (execOp ev ⟨dst, .call ⟨.builtin .min, #[x, y], ats⟩, ty, pos, after, guard⟩).run P w = .ok (.value v) w := by
    unfold aMin at hv
    split at hv
    · rename_i k a k' b e1 e2
      rw [e1] at hx; rw [e2] at hy
      simp at hv; subst hv
      rw [execOp_b, b_min]
      simp only [List.map_toArray, List.map_cons, List.map_nil, Sem.run_bind, VR_sc hx, VR_sc hy, run_min_int2, Result.andThen_ok, Sem.run_pure]
    · cases hv
  rw [this]
  exact sr_here hm (.sc _) h

end
end Go.Proofs.Yteclchefihcjkaa.Am
