/- What the types and functions are. -/
import Derived.Test.YteclchefihcjkaaM26
import Derived.Test.YteclchefihcjkaaM28
import Derived.Test.YteclchefihcjkaaM30
import Derived.Test.YteclchefihcjkaaProg
import Derived.KernelRfl
namespace Go.Proofs.Yteclchefihcjkaa.Am
open Go

theorem ti3 : tinf Try.prog 3 = some (1, 8, some (.int .i64 0)) := by kernel_rfl
theorem ag3 : aggT Try.prog 3 = some false := by kernel_rfl
theorem ti5 : tinf Try.prog 5 = some (1, 1, some (.int .u8 0)) := by kernel_rfl
theorem ag5 : aggT Try.prog 5 = some false := by kernel_rfl
theorem ti22 : tinf Try.prog 22 = some (1, 24, some (.slice none 0 0)) := by kernel_rfl
theorem ag22 : aggT Try.prog 22 = some false := by kernel_rfl
theorem ti23 : tinf Try.prog 23 = some (1, 8, some (.int .u64 0)) := by kernel_rfl
theorem ag23 : aggT Try.prog 23 = some false := by kernel_rfl
theorem ti27 : tinf Try.prog 27 = some (1, 24, some (.slice none 0 0)) := by kernel_rfl
theorem ag27 : aggT Try.prog 27 = some false := by kernel_rfl
theorem ti29 : tinf Try.prog 29 = some (1, 8, some (.int .i64 0)) := by kernel_rfl
theorem ag29 : aggT Try.prog 29 = some false := by kernel_rfl
theorem ti70 : tinf Try.prog 70 = some (2, 16, some (.agg #[(.int .i64 0), (.int .i64 0)])) := by kernel_rfl
theorem ag70 : aggT Try.prog 70 = some true := by kernel_rfl
theorem ti83 : tinf Try.prog 83 = some (1, 8, some (.map none)) := by kernel_rfl
theorem ag83 : aggT Try.prog 83 = some false := by kernel_rfl
theorem ti84 : tinf Try.prog 84 = some (1, 24, some (.slice none 0 0)) := by kernel_rfl
theorem ag84 : aggT Try.prog 84 = some false := by kernel_rfl
theorem ti86 : tinf Try.prog 86 = some (5, 56, some (.agg #[(.int .i64 0), (.map none), (.map none), (.slice none 0 0), (.int .i64 0)])) := by kernel_rfl
theorem ti88 : tinf Try.prog 88 = some (2, 32, some (.agg #[(.int .i64 0), (.slice none 0 0)])) := by kernel_rfl
theorem ti93 : tinf Try.prog 93 = some (1, 24, some (.slice none 0 0)) := by kernel_rfl
theorem ag93 : aggT Try.prog 93 = some false := by kernel_rfl
theorem ti95 : tinf Try.prog 95 = some (3, 56, some (.agg #[(.slice none 0 0), (.slice none 0 0), (.int .i64 0)])) := by kernel_rfl
theorem ti97 : tinf Try.prog 97 = some (2, 32, some (.agg #[(.int .i64 0), (.slice none 0 0)])) := by kernel_rfl
theorem ti116 : tinf Try.prog 116 = some (2, 32, some (.agg #[(.slice none 0 0), (.int .i64 0)])) := by kernel_rfl
theorem ti118 : tinf Try.prog 118 = some (2, 32, some (.agg #[(.slice none 0 0), (.int .i64 0)])) := by kernel_rfl
theorem ti122 : tinf Try.prog 122 = some (2, 32, some (.agg #[(.slice none 0 0), (.int .i64 0)])) := by kernel_rfl
def pl86 (i : Nat) : Option (Nat × Nat) := [(0, 1), (1, 1), (2, 1), (3, 1), (4, 1)][i]?
theorem fp86 (fs : Array Field) (h : Try.prog.underlying 86 = some (.struct fs)) : ∀ i, fplace Try.prog fs i = pl86 i := by
  rw [Try.underlying86] at h
  cases h
  intro i
  match i with
  | 0 => simp [fplace, pl86, ti3]
  | 1 => simp [fplace, pl86, ti83]
  | 2 => simp [fplace, pl86, ti83]
  | 3 => simp [fplace, pl86, ti84]
  | 4 => simp [fplace, pl86, ti3]
  | n + 5 => simp [fplace, pl86]
theorem fa86 (fs : Array Field) (h : Try.prog.underlying 86 = some (.struct fs)) : fs.all (fun f => (tinf Try.prog f.type).isSome) = true := by
  rw [Try.underlying86] at h
  cases h
  simp [ti3, ti83, ti84]
def pl88 (i : Nat) : Option (Nat × Nat) := [(0, 1), (1, 1)][i]?
theorem fp88 (fs : Array Field) (h : Try.prog.underlying 88 = some (.struct fs)) : ∀ i, fplace Try.prog fs i = pl88 i := by
  rw [Try.underlying88] at h
  cases h
  intro i
  match i with
  | 0 => simp [fplace, pl88, ti3]
  | 1 => simp [fplace, pl88, ti27]
  | n + 2 => simp [fplace, pl88]
theorem fa88 (fs : Array Field) (h : Try.prog.underlying 88 = some (.struct fs)) : fs.all (fun f => (tinf Try.prog f.type).isSome) = true := by
  rw [Try.underlying88] at h
  cases h
  simp [ti27, ti3]
def pl95 (i : Nat) : Option (Nat × Nat) := [(0, 1), (1, 1), (2, 1)][i]?
theorem fp95 (fs : Array Field) (h : Try.prog.underlying 95 = some (.struct fs)) : ∀ i, fplace Try.prog fs i = pl95 i := by
  rw [Try.underlying95] at h
  cases h
  intro i
  match i with
  | 0 => simp [fplace, pl95, ti22]
  | 1 => simp [fplace, pl95, ti93]
  | 2 => simp [fplace, pl95, ti3]
  | n + 3 => simp [fplace, pl95]
theorem fa95 (fs : Array Field) (h : Try.prog.underlying 95 = some (.struct fs)) : fs.all (fun f => (tinf Try.prog f.type).isSome) = true := by
  rw [Try.underlying95] at h
  cases h
  simp [ti22, ti3, ti93]
def pl97 (i : Nat) : Option (Nat × Nat) := [(0, 1), (1, 1)][i]?
theorem fp97 (fs : Array Field) (h : Try.prog.underlying 97 = some (.struct fs)) : ∀ i, fplace Try.prog fs i = pl97 i := by
  rw [Try.underlying97] at h
  cases h
  intro i
  match i with
  | 0 => simp [fplace, pl97, ti3]
  | 1 => simp [fplace, pl97, ti27]
  | n + 2 => simp [fplace, pl97]
theorem fa97 (fs : Array Field) (h : Try.prog.underlying 97 = some (.struct fs)) : fs.all (fun f => (tinf Try.prog f.type).isSome) = true := by
  rw [Try.underlying97] at h
  cases h
  simp [ti27, ti3]
def pl116 (i : Nat) : Option (Nat × Nat) := [(0, 1), (1, 1)][i]?
theorem fp116 (fs : Array Field) (h : Try.prog.underlying 116 = some (.struct fs)) : ∀ i, fplace Try.prog fs i = pl116 i := by
  rw [Try.underlying116] at h
  cases h
  intro i
  match i with
  | 0 => simp [fplace, pl116, ti27]
  | 1 => simp [fplace, pl116, ti29]
  | n + 2 => simp [fplace, pl116]
theorem fa116 (fs : Array Field) (h : Try.prog.underlying 116 = some (.struct fs)) : fs.all (fun f => (tinf Try.prog f.type).isSome) = true := by
  rw [Try.underlying116] at h
  cases h
  simp [ti27, ti29]
def pl118 (i : Nat) : Option (Nat × Nat) := [(0, 2)][i]?
theorem fp118 (fs : Array Field) (h : Try.prog.underlying 118 = some (.struct fs)) : ∀ i, fplace Try.prog fs i = pl118 i := by
  rw [Try.underlying118] at h
  cases h
  intro i
  match i with
  | 0 => simp [fplace, pl118, ti116]
  | n + 1 => simp [fplace, pl118]
theorem fa118 (fs : Array Field) (h : Try.prog.underlying 118 = some (.struct fs)) : fs.all (fun f => (tinf Try.prog f.type).isSome) = true := by
  rw [Try.underlying118] at h
  cases h
  simp [ti116]
def pl122 (i : Nat) : Option (Nat × Nat) := [(0, 1), (1, 1)][i]?
theorem fp122 (fs : Array Field) (h : Try.prog.underlying 122 = some (.struct fs)) : ∀ i, fplace Try.prog fs i = pl122 i := by
  rw [Try.underlying122] at h
  cases h
  intro i
  match i with
  | 0 => simp [fplace, pl122, ti27]
  | 1 => simp [fplace, pl122, ti3]
  | n + 2 => simp [fplace, pl122]
theorem fa122 (fs : Array Field) (h : Try.prog.underlying 122 = some (.struct fs)) : fs.all (fun f => (tinf Try.prog f.type).isSome) = true := by
  rw [Try.underlying122] at h
  cases h
  simp [ti27, ti3]
theorem cl10 : callable Try.prog 10 = true := by kernel_rfl
theorem cl15 : callable Try.prog 15 = true := by kernel_rfl
theorem cl16 : callable Try.prog 16 = true := by kernel_rfl
theorem cl19 : callable Try.prog 19 = true := by kernel_rfl
theorem cl30 : callable Try.prog 30 = true := by kernel_rfl
theorem cl35 : callable Try.prog 35 = true := by kernel_rfl
theorem cl36 : callable Try.prog 36 = true := by kernel_rfl
theorem cl37 : callable Try.prog 37 = true := by kernel_rfl
theorem cl38 : callable Try.prog 38 = true := by kernel_rfl
theorem cl39 : callable Try.prog 39 = true := by kernel_rfl
theorem cl40 : callable Try.prog 40 = true := by kernel_rfl
theorem cl41 : callable Try.prog 41 = true := by kernel_rfl
theorem cl42 : callable Try.prog 42 = true := by kernel_rfl
theorem cl43 : callable Try.prog 43 = true := by kernel_rfl
theorem cl44 : callable Try.prog 44 = true := by kernel_rfl
theorem cl47 : callable Try.prog 47 = true := by kernel_rfl
theorem cl49 : callable Try.prog 49 = true := by kernel_rfl
theorem cl50 : callable Try.prog 50 = true := by kernel_rfl
theorem cl52 : callable Try.prog 52 = true := by kernel_rfl
theorem cl54 : callable Try.prog 54 = true := by kernel_rfl
theorem cl55 : callable Try.prog 55 = true := by kernel_rfl
theorem cl56 : callable Try.prog 56 = true := by kernel_rfl
theorem cl59 : callable Try.prog 59 = true := by kernel_rfl
theorem cl60 : callable Try.prog 60 = true := by kernel_rfl
theorem cl61 : callable Try.prog 61 = true := by kernel_rfl
theorem cl62 : callable Try.prog 62 = true := by kernel_rfl
theorem cl63 : callable Try.prog 63 = true := by kernel_rfl
theorem cl64 : callable Try.prog 64 = true := by kernel_rfl
theorem cl65 : callable Try.prog 65 = true := by kernel_rfl
theorem cl66 : callable Try.prog 66 = true := by kernel_rfl
theorem cl67 : callable Try.prog 67 = true := by kernel_rfl
theorem cl68 : callable Try.prog 68 = true := by kernel_rfl
theorem cl69 : callable Try.prog 69 = true := by kernel_rfl
theorem cl70 : callable Try.prog 70 = true := by kernel_rfl
theorem cl71 : callable Try.prog 71 = true := by kernel_rfl
theorem cl72 : callable Try.prog 72 = true := by kernel_rfl
theorem cl73 : callable Try.prog 73 = true := by kernel_rfl
theorem cl74 : callable Try.prog 74 = true := by kernel_rfl
theorem cl75 : callable Try.prog 75 = true := by kernel_rfl
theorem cl76 : callable Try.prog 76 = true := by kernel_rfl
theorem cl77 : callable Try.prog 77 = true := by kernel_rfl
theorem cl78 : callable Try.prog 78 = true := by kernel_rfl
theorem cl79 : callable Try.prog 79 = true := by kernel_rfl
theorem cl80 : callable Try.prog 80 = true := by kernel_rfl
theorem cl81 : callable Try.prog 81 = true := by kernel_rfl
theorem cl82 : callable Try.prog 82 = true := by kernel_rfl
theorem cl83 : callable Try.prog 83 = true := by kernel_rfl
theorem cl84 : callable Try.prog 84 = true := by kernel_rfl
theorem cl85 : callable Try.prog 85 = true := by kernel_rfl
theorem cl86 : callable Try.prog 86 = true := by kernel_rfl
theorem cl87 : callable Try.prog 87 = true := by kernel_rfl
theorem cl88 : callable Try.prog 88 = true := by kernel_rfl
theorem cl89 : callable Try.prog 89 = true := by kernel_rfl
theorem cl90 : callable Try.prog 90 = true := by kernel_rfl
theorem cl91 : callable Try.prog 91 = true := by kernel_rfl
theorem cl92 : callable Try.prog 92 = true := by kernel_rfl
theorem cl93 : callable Try.prog 93 = true := by kernel_rfl
theorem cl94 : callable Try.prog 94 = true := by kernel_rfl
theorem mixed : Try.prog.follows .mixedOrders = true := by kernel_rfl

end Go.Proofs.Yteclchefihcjkaa.Am
