/- What the types and functions are. -/
import Derived.Test.YtbjleolchcajkaaM24
import Derived.Test.YtbjleolchcajkaaProg
import Derived.KernelRfl
namespace Go.Proofs.Ytbjleolchcajkaa.Am
open Go

theorem ti3 : tinf Try.prog 3 = some (1, 8, some (.int .i64 0)) := by kernel_rfl
theorem ag3 : aggT Try.prog 3 = some false := by kernel_rfl
theorem ti5 : tinf Try.prog 5 = some (1, 1, some (.int .u8 0)) := by kernel_rfl
theorem ag5 : aggT Try.prog 5 = some false := by kernel_rfl
theorem ti22 : tinf Try.prog 22 = some (1, 24, some (.slice none 0 0)) := by kernel_rfl
theorem ag22 : aggT Try.prog 22 = some false := by kernel_rfl
theorem ti24 : tinf Try.prog 24 = some (1, 24, some (.slice none 0 0)) := by kernel_rfl
theorem ag24 : aggT Try.prog 24 = some false := by kernel_rfl
theorem ti26 : tinf Try.prog 26 = some (4, 64, some (.agg #[(.int .i64 0), (.int .i64 0), (.slice none 0 0), (.slice none 0 0)])) := by kernel_rfl
theorem ag26 : aggT Try.prog 26 = some true := by kernel_rfl
theorem ti29 : tinf Try.prog 29 = some (1, 24, some (.slice none 0 0)) := by kernel_rfl
theorem ag29 : aggT Try.prog 29 = some false := by kernel_rfl
theorem ti39 : tinf Try.prog 39 = some (5, 88, some (.agg #[(.int .i64 0), (.int .i64 0), (.slice none 0 0), (.slice none 0 0), (.slice none 0 0)])) := by kernel_rfl
theorem ti41 : tinf Try.prog 41 = some (5, 88, some (.agg #[(.int .i64 0), (.int .i64 0), (.slice none 0 0), (.slice none 0 0), (.slice none 0 0)])) := by kernel_rfl
theorem ti53 : tinf Try.prog 53 = some (4, 48, some (.agg #[(.int .i64 0), (.int .i64 0), (.int .i64 0), (.slice none 0 0)])) := by kernel_rfl
theorem ag53 : aggT Try.prog 53 = some true := by kernel_rfl
theorem ti56 : tinf Try.prog 56 = some (5, 32, some (.agg #[(.int .u8 0), (.int .u8 0), (.int .u8 0), (.int .u8 0), (.slice none 0 0)])) := by kernel_rfl
theorem ag56 : aggT Try.prog 56 = some true := by kernel_rfl
theorem ti58 : tinf Try.prog 58 = some (5, 88, some (.agg #[(.int .i64 0), (.int .i64 0), (.slice none 0 0), (.slice none 0 0), (.slice none 0 0)])) := by kernel_rfl
def pl26 (i : Nat) : Option (Nat × Nat) := [(0, 1), (1, 1), (2, 1), (3, 1)][i]?
theorem fp26 (fs : Array Field) (h : Try.prog.underlying 26 = some (.struct fs)) : ∀ i, fplace Try.prog fs i = pl26 i := by
  rw [Try.underlying26] at h
  cases h
  intro i
  match i with
  | 0 => simp [fplace, pl26, ti3]
  | 1 => simp [fplace, pl26, ti3]
  | 2 => simp [fplace, pl26, ti24]
  | 3 => simp [fplace, pl26, ti22]
  | n + 4 => simp [fplace, pl26]
theorem fa26 (fs : Array Field) (h : Try.prog.underlying 26 = some (.struct fs)) : fs.all (fun f => (tinf Try.prog f.type).isSome) = true := by
  rw [Try.underlying26] at h
  cases h
  simp [ti22, ti24, ti3]
def pl39 (i : Nat) : Option (Nat × Nat) := [(0, 4), (4, 1)][i]?
theorem fp39 (fs : Array Field) (h : Try.prog.underlying 39 = some (.struct fs)) : ∀ i, fplace Try.prog fs i = pl39 i := by
  rw [Try.underlying39] at h
  cases h
  intro i
  match i with
  | 0 => simp [fplace, pl39, ti26]
  | 1 => simp [fplace, pl39, ti29]
  | n + 2 => simp [fplace, pl39]
theorem fa39 (fs : Array Field) (h : Try.prog.underlying 39 = some (.struct fs)) : fs.all (fun f => (tinf Try.prog f.type).isSome) = true := by
  rw [Try.underlying39] at h
  cases h
  simp [ti26, ti29]
def pl41 (i : Nat) : Option (Nat × Nat) := [(0, 5)][i]?
theorem fp41 (fs : Array Field) (h : Try.prog.underlying 41 = some (.struct fs)) : ∀ i, fplace Try.prog fs i = pl41 i := by
  rw [Try.underlying41] at h
  cases h
  intro i
  match i with
  | 0 => simp [fplace, pl41, ti39]
  | n + 1 => simp [fplace, pl41]
theorem fa41 (fs : Array Field) (h : Try.prog.underlying 41 = some (.struct fs)) : fs.all (fun f => (tinf Try.prog f.type).isSome) = true := by
  rw [Try.underlying41] at h
  cases h
  simp [ti39]
def pl53 (i : Nat) : Option (Nat × Nat) := [(0, 1), (1, 1), (2, 1), (3, 1)][i]?
theorem fp53 (fs : Array Field) (h : Try.prog.underlying 53 = some (.struct fs)) : ∀ i, fplace Try.prog fs i = pl53 i := by
  rw [Try.underlying53] at h
  cases h
  intro i
  match i with
  | 0 => simp [fplace, pl53, ti3]
  | 1 => simp [fplace, pl53, ti3]
  | 2 => simp [fplace, pl53, ti3]
  | 3 => simp [fplace, pl53, ti22]
  | n + 4 => simp [fplace, pl53]
theorem fa53 (fs : Array Field) (h : Try.prog.underlying 53 = some (.struct fs)) : fs.all (fun f => (tinf Try.prog f.type).isSome) = true := by
  rw [Try.underlying53] at h
  cases h
  simp [ti22, ti3]
def pl58 (i : Nat) : Option (Nat × Nat) := [(0, 4), (4, 1)][i]?
theorem fp58 (fs : Array Field) (h : Try.prog.underlying 58 = some (.struct fs)) : ∀ i, fplace Try.prog fs i = pl58 i := by
  rw [Try.underlying58] at h
  cases h
  intro i
  match i with
  | 0 => simp [fplace, pl58, ti26]
  | 1 => simp [fplace, pl58, ti29]
  | n + 2 => simp [fplace, pl58]
theorem fa58 (fs : Array Field) (h : Try.prog.underlying 58 = some (.struct fs)) : fs.all (fun f => (tinf Try.prog f.type).isSome) = true := by
  rw [Try.underlying58] at h
  cases h
  simp [ti26, ti29]
theorem cl6 : callable Try.prog 6 = true := by kernel_rfl
theorem cl7 : callable Try.prog 7 = true := by kernel_rfl
theorem cl8 : callable Try.prog 8 = true := by kernel_rfl
theorem cl9 : callable Try.prog 9 = true := by kernel_rfl
theorem cl10 : callable Try.prog 10 = true := by kernel_rfl
theorem cl11 : callable Try.prog 11 = true := by kernel_rfl
theorem cl12 : callable Try.prog 12 = true := by kernel_rfl
theorem cl13 : callable Try.prog 13 = true := by kernel_rfl
theorem cl14 : callable Try.prog 14 = true := by kernel_rfl
theorem cl15 : callable Try.prog 15 = true := by kernel_rfl
theorem cl16 : callable Try.prog 16 = true := by kernel_rfl
theorem cl17 : callable Try.prog 17 = true := by kernel_rfl
theorem cl18 : callable Try.prog 18 = true := by kernel_rfl
theorem cl19 : callable Try.prog 19 = true := by kernel_rfl
theorem cl20 : callable Try.prog 20 = true := by kernel_rfl
theorem cl21 : callable Try.prog 21 = true := by kernel_rfl
theorem cl22 : callable Try.prog 22 = true := by kernel_rfl
theorem cl23 : callable Try.prog 23 = true := by kernel_rfl
theorem cl24 : callable Try.prog 24 = true := by kernel_rfl
theorem cl25 : callable Try.prog 25 = true := by kernel_rfl
theorem cl26 : callable Try.prog 26 = true := by kernel_rfl
theorem cl27 : callable Try.prog 27 = true := by kernel_rfl
theorem cl28 : callable Try.prog 28 = true := by kernel_rfl
theorem cl29 : callable Try.prog 29 = true := by kernel_rfl
theorem cl30 : callable Try.prog 30 = true := by kernel_rfl
theorem cl31 : callable Try.prog 31 = true := by kernel_rfl
theorem cl32 : callable Try.prog 32 = true := by kernel_rfl
theorem cl33 : callable Try.prog 33 = true := by kernel_rfl
theorem cl34 : callable Try.prog 34 = true := by kernel_rfl
theorem cl35 : callable Try.prog 35 = true := by kernel_rfl
theorem cl36 : callable Try.prog 36 = true := by kernel_rfl
theorem cl37 : callable Try.prog 37 = true := by kernel_rfl
theorem cl38 : callable Try.prog 38 = true := by kernel_rfl
theorem cl39 : callable Try.prog 39 = true := by kernel_rfl
theorem cl40 : callable Try.prog 40 = true := by kernel_rfl
theorem cl41 : callable Try.prog 41 = true := by kernel_rfl
theorem cl42 : callable Try.prog 42 = true := by kernel_rfl
theorem cl43 : callable Try.prog 43 = true := by kernel_rfl
theorem cl44 : callable Try.prog 44 = true := by kernel_rfl
theorem cl45 : callable Try.prog 45 = true := by kernel_rfl
theorem cl46 : callable Try.prog 46 = true := by kernel_rfl
theorem cl47 : callable Try.prog 47 = true := by kernel_rfl
theorem cl48 : callable Try.prog 48 = true := by kernel_rfl
theorem cl49 : callable Try.prog 49 = true := by kernel_rfl
theorem cl50 : callable Try.prog 50 = true := by kernel_rfl
theorem cl51 : callable Try.prog 51 = true := by kernel_rfl
theorem cl52 : callable Try.prog 52 = true := by kernel_rfl
theorem cl53 : callable Try.prog 53 = true := by kernel_rfl
theorem cl54 : callable Try.prog 54 = true := by kernel_rfl
theorem cl55 : callable Try.prog 55 = true := by kernel_rfl
theorem cl56 : callable Try.prog 56 = true := by kernel_rfl
theorem cl57 : callable Try.prog 57 = true := by kernel_rfl
theorem cl58 : callable Try.prog 58 = true := by kernel_rfl
theorem cl64 : callable Try.prog 64 = true := by kernel_rfl
theorem cl68 : callable Try.prog 68 = true := by kernel_rfl
theorem cl69 : callable Try.prog 69 = true := by kernel_rfl
theorem cl75 : callable Try.prog 75 = true := by kernel_rfl
theorem mixed : Try.prog.follows .mixedOrders = true := by kernel_rfl

end Go.Proofs.Ytbjleolchcajkaa.Am
