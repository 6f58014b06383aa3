/- What the types and functions are. -/
import Derived.Test.YteclchefihcjkaaM26
import Derived.Test.YteclchefihcjkaaM28
import Derived.Test.YteclchefihcjkaaProg
import Derived.KernelRfl
namespace Go.Proofs.Yteclchefihcjkaa.Am
open Go

theorem ti3 : tinf Try.prog 3 = some (1, 8, some (.int .i64 0)) := by kernel_rfl
theorem ag3 : aggT Try.prog 3 = some false := by kernel_rfl
theorem ti5 : tinf Try.prog 5 = some (1, 1, some (.int .u8 0)) := by kernel_rfl
theorem ag5 : aggT Try.prog 5 = some false := by kernel_rfl
theorem ti22 : tinf Try.prog 22 = some (1, 24, some (.slice none 0 0)) := by kernel_rfl
theorem ag22 : aggT Try.prog 22 = some false := by kernel_rfl
theorem ti23 : tinf Try.prog 23 = some (1, 8, some (.int .u64 0)) := by kernel_rfl
theorem ag23 : aggT Try.prog 23 = some false := by kernel_rfl
theorem ti27 : tinf Try.prog 27 = some (1, 24, some (.slice none 0 0)) := by kernel_rfl
theorem ag27 : aggT Try.prog 27 = some false := by kernel_rfl
theorem ti42 : tinf Try.prog 42 = some (3, 24, some (.agg #[(.int .u64 0), (.int .u64 0), (.int .i64 0)])) := by kernel_rfl
theorem ag42 : aggT Try.prog 42 = some true := by kernel_rfl
theorem ti47 : tinf Try.prog 47 = some (3, 24, some (.agg #[(.int .u64 0), (.int .u64 0), (.int .i64 0)])) := by kernel_rfl
theorem ag47 : aggT Try.prog 47 = some true := by kernel_rfl
theorem ti83 : tinf Try.prog 83 = some (1, 8, some (.map none)) := by kernel_rfl
theorem ag83 : aggT Try.prog 83 = some false := by kernel_rfl
theorem ti84 : tinf Try.prog 84 = some (1, 24, some (.slice none 0 0)) := by kernel_rfl
theorem ag84 : aggT Try.prog 84 = some false := by kernel_rfl
theorem ti86 : tinf Try.prog 86 = some (5, 56, some (.agg #[(.int .i64 0), (.map none), (.map none), (.slice none 0 0), (.int .i64 0)])) := by kernel_rfl
theorem ti88 : tinf Try.prog 88 = some (2, 32, some (.agg #[(.int .i64 0), (.slice none 0 0)])) := by kernel_rfl
theorem ag88 : aggT Try.prog 88 = some true := by kernel_rfl
theorem ti93 : tinf Try.prog 93 = some (1, 24, some (.slice none 0 0)) := by kernel_rfl
theorem ag93 : aggT Try.prog 93 = some false := by kernel_rfl
theorem ti95 : tinf Try.prog 95 = some (3, 56, some (.agg #[(.slice none 0 0), (.slice none 0 0), (.int .i64 0)])) := by kernel_rfl
theorem ti97 : tinf Try.prog 97 = some (2, 32, some (.agg #[(.int .i64 0), (.slice none 0 0)])) := by kernel_rfl
theorem ag97 : aggT Try.prog 97 = some true := by kernel_rfl
def pl42 (i : Nat) : Option (Nat × Nat) := [(0, 1), (1, 1), (2, 1)][i]?
theorem fp42 (fs : Array Field) (h : Try.prog.underlying 42 = some (.struct fs)) : ∀ i, fplace Try.prog fs i = pl42 i := by
  rw [Try.underlying42] at h
  cases h
  intro i
  match i with
  | 0 => simp [fplace, pl42, ti23]
  | 1 => simp [fplace, pl42, ti23]
  | 2 => simp [fplace, pl42, ti3]
  | n + 3 => simp [fplace, pl42]
theorem fa42 (fs : Array Field) (h : Try.prog.underlying 42 = some (.struct fs)) : fs.all (fun f => (tinf Try.prog f.type).isSome) = true := by
  rw [Try.underlying42] at h
  cases h
  simp [ti23, ti3]
def pl47 (i : Nat) : Option (Nat × Nat) := [(0, 1), (1, 1), (2, 1)][i]?
theorem fp47 (fs : Array Field) (h : Try.prog.underlying 47 = some (.struct fs)) : ∀ i, fplace Try.prog fs i = pl47 i := by
  rw [Try.underlying47] at h
  cases h
  intro i
  match i with
  | 0 => simp [fplace, pl47, ti23]
  | 1 => simp [fplace, pl47, ti23]
  | 2 => simp [fplace, pl47, ti3]
  | n + 3 => simp [fplace, pl47]
theorem fa47 (fs : Array Field) (h : Try.prog.underlying 47 = some (.struct fs)) : fs.all (fun f => (tinf Try.prog f.type).isSome) = true := by
  rw [Try.underlying47] at h
  cases h
  simp [ti23, ti3]
def pl86 (i : Nat) : Option (Nat × Nat) := [(0, 1), (1, 1), (2, 1), (3, 1), (4, 1)][i]?
theorem fp86 (fs : Array Field) (h : Try.prog.underlying 86 = some (.struct fs)) : ∀ i, fplace Try.prog fs i = pl86 i := by
  rw [Try.underlying86] at h
  cases h
  intro i
  match i with
  | 0 => simp [fplace, pl86, ti3]
  | 1 => simp [fplace, pl86, ti83]
  | 2 => simp [fplace, pl86, ti83]
  | 3 => simp [fplace, pl86, ti84]
  | 4 => simp [fplace, pl86, ti3]
  | n + 5 => simp [fplace, pl86]
theorem fa86 (fs : Array Field) (h : Try.prog.underlying 86 = some (.struct fs)) : fs.all (fun f => (tinf Try.prog f.type).isSome) = true := by
  rw [Try.underlying86] at h
  cases h
  simp [ti3, ti83, ti84]
def pl88 (i : Nat) : Option (Nat × Nat) := [(0, 1), (1, 1)][i]?
theorem fp88 (fs : Array Field) (h : Try.prog.underlying 88 = some (.struct fs)) : ∀ i, fplace Try.prog fs i = pl88 i := by
  rw [Try.underlying88] at h
  cases h
  intro i
  match i with
  | 0 => simp [fplace, pl88, ti3]
  | 1 => simp [fplace, pl88, ti27]
  | n + 2 => simp [fplace, pl88]
theorem fa88 (fs : Array Field) (h : Try.prog.underlying 88 = some (.struct fs)) : fs.all (fun f => (tinf Try.prog f.type).isSome) = true := by
  rw [Try.underlying88] at h
  cases h
  simp [ti27, ti3]
def pl95 (i : Nat) : Option (Nat × Nat) := [(0, 1), (1, 1), (2, 1)][i]?
theorem fp95 (fs : Array Field) (h : Try.prog.underlying 95 = some (.struct fs)) : ∀ i, fplace Try.prog fs i = pl95 i := by
  rw [Try.underlying95] at h
  cases h
  intro i
  match i with
  | 0 => simp [fplace, pl95, ti22]
  | 1 => simp [fplace, pl95, ti93]
  | 2 => simp [fplace, pl95, ti3]
  | n + 3 => simp [fplace, pl95]
theorem fa95 (fs : Array Field) (h : Try.prog.underlying 95 = some (.struct fs)) : fs.all (fun f => (tinf Try.prog f.type).isSome) = true := by
  rw [Try.underlying95] at h
  cases h
  simp [ti22, ti3, ti93]
def pl97 (i : Nat) : Option (Nat × Nat) := [(0, 1), (1, 1)][i]?
theorem fp97 (fs : Array Field) (h : Try.prog.underlying 97 = some (.struct fs)) : ∀ i, fplace Try.prog fs i = pl97 i := by
  rw [Try.underlying97] at h
  cases h
  intro i
  match i with
  | 0 => simp [fplace, pl97, ti3]
  | 1 => simp [fplace, pl97, ti27]
  | n + 2 => simp [fplace, pl97]
theorem fa97 (fs : Array Field) (h : Try.prog.underlying 97 = some (.struct fs)) : fs.all (fun f => (tinf Try.prog f.type).isSome) = true := by
  rw [Try.underlying97] at h
  cases h
  simp [ti27, ti3]
theorem cl9 : callable Try.prog 9 = true := by kernel_rfl
theorem cl15 : callable Try.prog 15 = true := by kernel_rfl
theorem cl16 : callable Try.prog 16 = true := by kernel_rfl
theorem cl17 : callable Try.prog 17 = true := by kernel_rfl
theorem cl18 : callable Try.prog 18 = true := by kernel_rfl
theorem cl19 : callable Try.prog 19 = true := by kernel_rfl
theorem cl21 : callable Try.prog 21 = true := by kernel_rfl
theorem cl22 : callable Try.prog 22 = true := by kernel_rfl
theorem cl23 : callable Try.prog 23 = true := by kernel_rfl
theorem cl24 : callable Try.prog 24 = true := by kernel_rfl
theorem cl25 : callable Try.prog 25 = true := by kernel_rfl
theorem cl26 : callable Try.prog 26 = true := by kernel_rfl
theorem cl27 : callable Try.prog 27 = true := by kernel_rfl
theorem cl28 : callable Try.prog 28 = true := by kernel_rfl
theorem cl29 : callable Try.prog 29 = true := by kernel_rfl
theorem cl30 : callable Try.prog 30 = true := by kernel_rfl
theorem cl31 : callable Try.prog 31 = true := by kernel_rfl
theorem cl32 : callable Try.prog 32 = true := by kernel_rfl
theorem cl33 : callable Try.prog 33 = true := by kernel_rfl
theorem cl34 : callable Try.prog 34 = true := by kernel_rfl
theorem cl44 : callable Try.prog 44 = true := by kernel_rfl
theorem cl47 : callable Try.prog 47 = true := by kernel_rfl
theorem cl48 : callable Try.prog 48 = true := by kernel_rfl
theorem cl49 : callable Try.prog 49 = true := by kernel_rfl
theorem cl50 : callable Try.prog 50 = true := by kernel_rfl
theorem cl51 : callable Try.prog 51 = true := by kernel_rfl
theorem cl52 : callable Try.prog 52 = true := by kernel_rfl
theorem cl53 : callable Try.prog 53 = true := by kernel_rfl
theorem cl54 : callable Try.prog 54 = true := by kernel_rfl
theorem cl55 : callable Try.prog 55 = true := by kernel_rfl
theorem cl56 : callable Try.prog 56 = true := by kernel_rfl
theorem cl57 : callable Try.prog 57 = true := by kernel_rfl
theorem cl58 : callable Try.prog 58 = true := by kernel_rfl
theorem cl59 : callable Try.prog 59 = true := by kernel_rfl
theorem cl69 : callable Try.prog 69 = true := by kernel_rfl
theorem mixed : Try.prog.follows .mixedOrders = true := by kernel_rfl

end Go.Proofs.Yteclchefihcjkaa.Am
