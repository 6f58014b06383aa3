/- Partial functions over lists and whole numbers: what a program's functions are, read as such. -/
import Derived.Test.YteclchefihcjkaaM15
namespace Go.Proofs.Yteclchefihcjkaa.Am
open Go

/-- How a piece of code ends: ahead of its end, or at it. -/
inductive Ctl (E S : Type) where
  | ret (e : E)
  | go (s : S)

def loopN {S T : Type} (b : S → Option (Ctl T S)) : Nat → S → Option T
  | 0, _ => none
  | n + 1, s => match b s with
    | none => none
    | some (.ret t) => some t
    | some (.go s') => loopN b n s'

/-- Rounds enough. -/
def fuel : Nat := 4611686018427387904

/-- The rest behind a piece that may end ahead of its end. -/
def kont {E S : Type} (c : Option (Ctl E S)) (f : S → Option E) : Option E :=
  match c with
  | none => none
  | some (.ret e) => some e
  | some (.go s) => f s

/-- The end of a piece inside another one. -/
def early {E S : Type} (x : Option E) : Option (Ctl E S) := x.map .ret

def idx {α : Type} (l : List α) (i : Int) : Option α := if 0 ≤ i then l[i.toNat]? else none
def slc {α : Type} (l : List α) (lo hi : Int) : Option (List α) :=
  if 0 ≤ lo ∧ lo ≤ hi ∧ hi ≤ l.length then some ((l.take hi.toNat).drop lo.toNat) else none
/-- One list behind another, of elements of so many bytes. -/
def app {α : Type} (b : Nat) (x y : List α) : Option (List α) :=
  if (x.length + y.length) * b ≤ 140737488355328 ∧ x.length + y.length ≤ 9223372036854775807 then some (x ++ y) else none
def mks {α : Type} (b : Nat) (z : α) (n : Int) : Option (List α) := if 0 ≤ n ∧ b * n ≤ 140737488355328 ∧ n ≤ 9223372036854775807 then some (List.replicate n.toNat z) else none
def updL {α : Type} (l : List α) (i : Int) (x : α) : Option (List α) := if 0 ≤ i ∧ i < l.length then some (l.set i.toNat x) else none
def remI (a b : Int) : Option Int := if b = 0 then none else some (a.tmod b)
def cnt (k : IntKind) (b : Int) : Option Nat := if 0 ≤ b then some (min b.toNat k.bits) else none
def shlI (k : IntKind) (a : Int) (n : Nat) : Int := k.wrap (a * 2 ^ n)
def shrI (a : Int) (n : Nat) : Int := a / 2 ^ n
def maxI (a b : Int) : Int := if b > a then b else a
def minI (a b : Int) : Int := if b < a then b else a
def notI (k : IntKind) (n : Int) : Int := Go.bits .xor k (if k.signed then -1 else k.max) n
def u8 (n : Int) : UInt8 := UInt8.ofNat n.toNat
def ofU8 (b : UInt8) : Int := (b.toNat : Int)
def strOf (l : List Int) : List UInt8 := l.map u8
section
variable {α β E S T : Type}
theorem bind_some {o : Option α} {f : α → Option β} {b : β} (h : o.bind f = some b) : ∃ a, o = some a ∧ f a = some b := by
  cases o with
  | none => cases h
  | some a => exact ⟨a, rfl, h⟩
theorem kont_some {c : Option (Ctl E S)} {f : S → Option E} {e : E} (h : kont c f = some e) : ∃ x, c = some x ∧ kont (some x) f = some e := by
  cases c with
  | none => cases h
  | some x => exact ⟨x, rfl, h⟩
theorem kont_go {s : S} {f : S → Option E} {e : E} (h : kont (some (.go s)) f = some e) : f s = some e := h
theorem early_some {x : Option E} {c : Ctl E S} {f : S → Option E} {e : E} (h : early x = some c) (hk : kont (some c) f = some e) : x = some e := by
  cases x with
  | none => cases h
  | some y =>
    simp only [early, Option.map_some, Option.some.injEq] at h
    subst h
    exact hk
theorem early_ret {x : Option T} {c : Ctl T S} {t : T} (h : early x = some c) (ht : ∀ t', c = .ret t' → t' = t) : x = some t := by
  cases x with
  | none => cases h
  | some y =>
    simp only [early, Option.map_some, Option.some.injEq] at h
    subst h
    rw [ht y rfl]
theorem ite_t {b : Bool} {x y z : Option α} (hb : b = true) (h : (if b = true then x else y) = z) : x = z := by rw [if_pos hb] at h; exact h
theorem ite_f {b : Bool} {x y z : Option α} (hb : b = false) (h : (if b = true then x else y) = z) : y = z := by rw [if_neg (by rw [hb]; decide)] at h; exact h

theorem idx_some {l : List α} {i : Int} {a : α} (h : idx l i = some a) : 0 ≤ i ∧ l[i.toNat]? = some a := by
  unfold idx at h
  split at h
  · exact ⟨by assumption, h⟩
  · cases h
theorem idx_lt {l : List α} {i : Int} {a : α} (h : idx l i = some a) : 0 ≤ i ∧ i < l.length := by
  obtain ⟨h0, h1⟩ := idx_some h
  have := (List.getElem?_eq_some_iff.1 h1).1
  omega
theorem slc_some {l m : List α} {lo hi : Int} (h : slc l lo hi = some m) : 0 ≤ lo ∧ lo ≤ hi ∧ hi ≤ l.length ∧ m = (l.take hi.toNat).drop lo.toNat := by
  unfold slc at h
  split at h
  · rename_i hc; cases h; exact ⟨hc.1, hc.2.1, hc.2.2, rfl⟩
  · cases h
theorem app_some {b : Nat} {x y z : List α} (h : app b x y = some z) : (x.length + y.length) * b ≤ 140737488355328 ∧ x.length + y.length ≤ 9223372036854775807 ∧ z = x ++ y := by
  unfold app at h
  split at h
  · rename_i hc; cases h; exact ⟨hc.1, hc.2, rfl⟩
  · cases h
theorem mks_some {b : Nat} {x : α} {n : Int} {z : List α} (h : mks b x n = some z) : 0 ≤ n ∧ b * n ≤ 140737488355328 ∧ n ≤ 9223372036854775807 ∧ z = List.replicate n.toNat x := by
  unfold mks at h
  split at h
  · rename_i hc; cases h; exact ⟨hc.1, hc.2.1, hc.2.2, rfl⟩
  · cases h
theorem updL_some {l m : List α} {i : Int} {x : α} (h : updL l i x = some m) : 0 ≤ i ∧ i < l.length ∧ m = l.set i.toNat x := by
  unfold updL at h
  split at h
  · rename_i hc; cases h; exact ⟨hc.1, hc.2, rfl⟩
  · cases h
theorem updL_len {l m : List α} {i : Int} {x : α} (h : updL l i x = some m) : m.length = l.length := by rw [(updL_some h).2.2, List.length_set]
theorem remI_some {a b n : Int} (h : remI a b = some n) : b ≠ 0 ∧ n = a.tmod b := by
  unfold remI at h
  split at h
  · cases h
  · rename_i hc; cases h; exact ⟨hc, rfl⟩
theorem cnt_some {k : IntKind} {b : Int} {n : Nat} (h : cnt k b = some n) : 0 ≤ b ∧ n = min b.toNat k.bits := by
  unfold cnt at h
  split at h
  · rename_i hc; cases h; exact ⟨hc, rfl⟩
  · cases h
end

/-- A whole number of a kind. -/
def Ik (k : IntKind) (n : Int) : Prop := k.min ≤ n ∧ n ≤ k.max

theorem Ik.u8 {n : Int} (h : Ik .u8 n) : 0 ≤ n ∧ n < 256 := by
  obtain ⟨h1, h2⟩ := h
  have h1 : 0 ≤ n := h1
  have h2 : n ≤ 255 := h2
  omega
theorem Ik.u16 {n : Int} (h : Ik .u16 n) : 0 ≤ n ∧ n < 65536 := by
  obtain ⟨h1, h2⟩ := h
  have h1 : 0 ≤ n := h1
  have h2 : n ≤ 65535 := h2
  omega
theorem Ik.u32 {n : Int} (h : Ik .u32 n) : 0 ≤ n ∧ n < 4294967296 := by
  obtain ⟨h1, h2⟩ := h
  have h1 : 0 ≤ n := h1
  have h2 : n ≤ 4294967295 := h2
  omega
theorem Ik.u64 {n : Int} (h : Ik .u64 n) : 0 ≤ n ∧ n < 18446744073709551616 := by
  obtain ⟨h1, h2⟩ := h
  have h1 : 0 ≤ n := h1
  have h2 : n ≤ 18446744073709551615 := h2
  omega
theorem Ik.i64 {n : Int} (h : Ik .i64 n) : -9223372036854775808 ≤ n ∧ n ≤ 9223372036854775807 := h

/-- Cells of elements. -/
def c_u8 (n : Int) : List PV := [.sc (.int .u8 n)]
def c_u64 (n : Int) : List PV := [.sc (.int .u64 n)]
def c_L {α : Type} (z : Nat) (c : α → List PV) (l : List α) : List PV := [.sl z (l.map c)]

end Go.Proofs.Yteclchefihcjkaa.Am
