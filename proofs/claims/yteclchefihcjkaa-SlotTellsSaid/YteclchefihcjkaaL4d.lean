/- A disk that forgets: its functions, as functions over lists. -/
import Derived.Test.YteclchefihcjkaaS4
import Derived.Test.YteclchefihcjkaaO0
import Derived.Test.YteclchefihcjkaaM26
import Derived.KernelRfl
namespace Go.Proofs.Yteclchefihcjkaa.Am
open Go
set_option linter.unusedVariables false

abbrev Sec := List (Int × List Int)
def Z64 : List Int := List.replicate 64 0
def look (l : Sec) (i : Int) (z : List Int) : List Int := (mget l i).getD z
/-- What is sure of a sector; what is there now. -/
def sureD (d : Pdisk_Disk) (i : Int) : List Int := look d.sure i Z64
def rdD (d : Pdisk_Disk) (i : Int) : List Int := look d.now i (sureD d i)
def KU (l : Sec) : Prop := l.Pairwise fun x y => x.1 ≠ y.1
def L64 (l : Sec) : Prop := ∀ y ∈ l, y.2.length = 64
structure DiskOk (d : Pdisk_Disk) : Prop where
  n : 0 ≤ d.n ∧ d.n ≤ 1048576
  now : L64 d.now
  sure : L64 d.sure
  kn : KU d.now
  ks : KU d.sure
  l : ∀ w ∈ d.l, w.b.length = 64 ∧ 0 ≤ w.i ∧ w.i < d.n
  len : d.l.length ≤ 64
  pw : -1 ≤ d.power ∧ d.power ≤ 1000

section
variable {β : Type}
end

theorem L64.mset {l : Sec} (h : L64 l) {k : Int} {v : List Int} (hv : v.length = 64) : L64 (mset l k v) := fun y hy => by
  rcases mset_mem.1 hy with rfl | ⟨h1, _⟩
  · exact hv
  · exact h y h1
theorem L64.munion {s n : Sec} (hs : L64 s) (hn : L64 n) : L64 (munion s n) := by
  unfold Am.munion
  induction n generalizing s with
  | nil => exact hs
  | cons y n ih => exact ih (hs.mset (hn y (List.mem_cons_self ..))) fun z hz => hn z (List.mem_cons_of_mem _ hz)
theorem L64.look {l : Sec} (h : L64 l) {i : Int} {z : List Int} (hz : z.length = 64) : (look l i z).length = 64 := by
  unfold Am.look
  cases hg : mget l i with
  | none => exact hz
  | some b => exact h _ (mget_some hg)
end Go.Proofs.Yteclchefihcjkaa.Am
