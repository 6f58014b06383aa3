/- What the types and functions are. -/
import Derived.Test.YteoalgkckhijlaaM24
import Derived.Test.YteoalgkckhijlaaProg
import Derived.KernelRfl
namespace Go.Proofs.Yteoalgkckhijlaa.Am
open Go

theorem ti1 : tinf Try.prog 1 = some (1, 8, some .nilFunc) := by kernel_rfl
theorem ag1 : aggT Try.prog 1 = some false := by kernel_rfl
theorem ti2 : tinf Try.prog 2 = some (1, 8, some (.int .i64 0)) := by kernel_rfl
theorem ag2 : aggT Try.prog 2 = some false := by kernel_rfl
theorem ti3 : tinf Try.prog 3 = some (1, 8, some (.int .i64 0)) := by kernel_rfl
theorem ag3 : aggT Try.prog 3 = some false := by kernel_rfl
theorem ti4 : tinf Try.prog 4 = some (1, 1, some (.bool false)) := by kernel_rfl
theorem ag4 : aggT Try.prog 4 = some false := by kernel_rfl
theorem ti5 : tinf Try.prog 5 = some (1, 1, some (.int .u8 0)) := by kernel_rfl
theorem ag5 : aggT Try.prog 5 = some false := by kernel_rfl
theorem ti6 : tinf Try.prog 6 = some (1, 1, some (.int .u8 0)) := by kernel_rfl
theorem ag6 : aggT Try.prog 6 = some false := by kernel_rfl
theorem ti7 : tinf Try.prog 7 = some (4, 24, some (.agg #[(.int .i64 0), (.int .i64 0), (.bool false), (.int .u8 0)])) := by kernel_rfl
theorem ag7 : aggT Try.prog 7 = some true := by kernel_rfl
theorem ti8 : tinf Try.prog 8 = some (4, 24, some (.agg #[(.int .i64 0), (.int .i64 0), (.bool false), (.int .u8 0)])) := by kernel_rfl
theorem ag8 : aggT Try.prog 8 = some true := by kernel_rfl
theorem ti9 : tinf Try.prog 9 = some (1, 16, some (.string .empty)) := by kernel_rfl
theorem ag9 : aggT Try.prog 9 = some false := by kernel_rfl
theorem ti10 : tinf Try.prog 10 = some (1, 16, some (.string .empty)) := by kernel_rfl
theorem ag10 : aggT Try.prog 10 = some false := by kernel_rfl
theorem ti11 : tinf Try.prog 11 = some (1, 16, some (.string .empty)) := by kernel_rfl
theorem ag11 : aggT Try.prog 11 = some false := by kernel_rfl
theorem ti12 : tinf Try.prog 12 = some (1, 8, some (.int .u64 0)) := by kernel_rfl
theorem ag12 : aggT Try.prog 12 = some false := by kernel_rfl
theorem ti13 : tinf Try.prog 13 = some (2, 24, some (.agg #[(.string .empty), (.int .u64 0)])) := by kernel_rfl
theorem ag13 : aggT Try.prog 13 = some true := by kernel_rfl
theorem ti14 : tinf Try.prog 14 = some (2, 24, some (.agg #[(.string .empty), (.int .u64 0)])) := by kernel_rfl
theorem ag14 : aggT Try.prog 14 = some true := by kernel_rfl
theorem ti15 : tinf Try.prog 15 = some (1, 8, some (.pointer none)) := by kernel_rfl
theorem ag15 : aggT Try.prog 15 = some false := by kernel_rfl
theorem ti16 : tinf Try.prog 16 = some (1, 8, some (.pointer none)) := by kernel_rfl
theorem ag16 : aggT Try.prog 16 = some false := by kernel_rfl
theorem ti17 : tinf Try.prog 17 = some (1, 8, some (.pointer none)) := by kernel_rfl
theorem ag17 : aggT Try.prog 17 = some false := by kernel_rfl
theorem ti18 : tinf Try.prog 18 = some (1, 8, some (.agg #[(.pointer none)])) := by kernel_rfl
theorem ag18 : aggT Try.prog 18 = some true := by kernel_rfl
theorem ti19 : tinf Try.prog 19 = some (1, 8, some (.agg #[(.pointer none)])) := by kernel_rfl
theorem ag19 : aggT Try.prog 19 = some true := by kernel_rfl
theorem ti20 : tinf Try.prog 20 = some (1, 16, some .nilIface) := by kernel_rfl
theorem ag20 : aggT Try.prog 20 = some false := by kernel_rfl
theorem ti21 : tinf Try.prog 21 = some (1, 4, some (.int .i32 0)) := by kernel_rfl
theorem ag21 : aggT Try.prog 21 = some false := by kernel_rfl
theorem ti22 : tinf Try.prog 22 = some (1, 24, some (.slice none 0 0)) := by kernel_rfl
theorem ag22 : aggT Try.prog 22 = some false := by kernel_rfl
theorem ti23 : tinf Try.prog 23 = some (1, 8, some .nilFunc) := by kernel_rfl
theorem ag23 : aggT Try.prog 23 = some false := by kernel_rfl
theorem ti24 : tinf Try.prog 24 = some (1, 8, some .nilFunc) := by kernel_rfl
theorem ag24 : aggT Try.prog 24 = some false := by kernel_rfl
theorem ti25 : tinf Try.prog 25 = some (1, 8, some .nilFunc) := by kernel_rfl
theorem ag25 : aggT Try.prog 25 = some false := by kernel_rfl
theorem ti26 : tinf Try.prog 26 = some (1, 8, some .nilFunc) := by kernel_rfl
theorem ag26 : aggT Try.prog 26 = some false := by kernel_rfl
theorem ti27 : tinf Try.prog 27 = some (1, 8, some .nilFunc) := by kernel_rfl
theorem ag27 : aggT Try.prog 27 = some false := by kernel_rfl
theorem ti28 : tinf Try.prog 28 = some (1, 4, some (.int .u32 0)) := by kernel_rfl
theorem ag28 : aggT Try.prog 28 = some false := by kernel_rfl
theorem ti29 : tinf Try.prog 29 = some (1, 8, some .nilFunc) := by kernel_rfl
theorem ag29 : aggT Try.prog 29 = some false := by kernel_rfl
theorem ti30 : tinf Try.prog 30 = some (1, 2, some (.int .u16 0)) := by kernel_rfl
theorem ag30 : aggT Try.prog 30 = some false := by kernel_rfl
theorem ti31 : tinf Try.prog 31 = some (1, 24, some (.slice none 0 0)) := by kernel_rfl
theorem ag31 : aggT Try.prog 31 = some false := by kernel_rfl
theorem ti32 : tinf Try.prog 32 = some (1, 8, some .nilFunc) := by kernel_rfl
theorem ag32 : aggT Try.prog 32 = some false := by kernel_rfl
theorem ti33 : tinf Try.prog 33 = some (1, 8, some .nilFunc) := by kernel_rfl
theorem ag33 : aggT Try.prog 33 = some false := by kernel_rfl
theorem ti34 : tinf Try.prog 34 = some (20, 20, some (.agg #[(.bool false), (.bool false), (.bool false), (.bool false), (.bool false), (.bool false), (.bool false), (.bool false), (.bool false), (.bool false), (.bool false), (.bool false), (.bool false), (.bool false), (.bool false), (.bool false), (.bool false), (.bool false), (.bool false), (.bool false)])) := by kernel_rfl
theorem ag34 : aggT Try.prog 34 = some true := by kernel_rfl
theorem ti35 : tinf Try.prog 35 = some (1, 8, some .nilFunc) := by kernel_rfl
theorem ag35 : aggT Try.prog 35 = some false := by kernel_rfl
theorem ti36 : tinf Try.prog 36 = some (1, 8, some .nilFunc) := by kernel_rfl
theorem ag36 : aggT Try.prog 36 = some false := by kernel_rfl
theorem ti37 : tinf Try.prog 37 = some (1, 8, some .nilFunc) := by kernel_rfl
theorem ag37 : aggT Try.prog 37 = some false := by kernel_rfl
theorem ti38 : tinf Try.prog 38 = some (1, 8, some .nilFunc) := by kernel_rfl
theorem ag38 : aggT Try.prog 38 = some false := by kernel_rfl
theorem ti39 : tinf Try.prog 39 = some (1, 8, some .nilFunc) := by kernel_rfl
theorem ag39 : aggT Try.prog 39 = some false := by kernel_rfl
theorem ti40 : tinf Try.prog 40 = some (1, 8, some .nilFunc) := by kernel_rfl
theorem ag40 : aggT Try.prog 40 = some false := by kernel_rfl
theorem ti41 : tinf Try.prog 41 = some (1, 8, some .nilFunc) := by kernel_rfl
theorem ag41 : aggT Try.prog 41 = some false := by kernel_rfl
theorem ti42 : tinf Try.prog 42 = some (1, 8, some .nilFunc) := by kernel_rfl
theorem ag42 : aggT Try.prog 42 = some false := by kernel_rfl
theorem ti43 : tinf Try.prog 43 = some (1, 8, some .nilFunc) := by kernel_rfl
theorem ag43 : aggT Try.prog 43 = some false := by kernel_rfl
theorem ti44 : tinf Try.prog 44 = some (1, 8, some .nilFunc) := by kernel_rfl
theorem ag44 : aggT Try.prog 44 = some false := by kernel_rfl
theorem ti45 : tinf Try.prog 45 = some (1, 8, some .nilFunc) := by kernel_rfl
theorem ag45 : aggT Try.prog 45 = some false := by kernel_rfl
theorem ti46 : tinf Try.prog 46 = some (1, 8, some .nilFunc) := by kernel_rfl
theorem ag46 : aggT Try.prog 46 = some false := by kernel_rfl
theorem ti47 : tinf Try.prog 47 = some (1, 8, some .nilFunc) := by kernel_rfl
theorem ag47 : aggT Try.prog 47 = some false := by kernel_rfl
theorem ti48 : tinf Try.prog 48 = some (1, 8, some .nilFunc) := by kernel_rfl
theorem ag48 : aggT Try.prog 48 = some false := by kernel_rfl
theorem ti49 : tinf Try.prog 49 = some (1, 8, some .nilFunc) := by kernel_rfl
theorem ag49 : aggT Try.prog 49 = some false := by kernel_rfl
theorem ti50 : tinf Try.prog 50 = some (1, 8, some (.int .u64 0)) := by kernel_rfl
theorem ag50 : aggT Try.prog 50 = some false := by kernel_rfl
theorem ti51 : tinf Try.prog 51 = some (1, 8, some .nilFunc) := by kernel_rfl
theorem ag51 : aggT Try.prog 51 = some false := by kernel_rfl
theorem ti52 : tinf Try.prog 52 = some (1, 8, some (.int .i64 0)) := by kernel_rfl
theorem ag52 : aggT Try.prog 52 = some false := by kernel_rfl
theorem ti54 : tinf Try.prog 54 = some (1, 8, some .nilFunc) := by kernel_rfl
theorem ag54 : aggT Try.prog 54 = some false := by kernel_rfl
theorem ti55 : tinf Try.prog 55 = some (1, 8, some .nilFunc) := by kernel_rfl
theorem ag55 : aggT Try.prog 55 = some false := by kernel_rfl
theorem ti56 : tinf Try.prog 56 = some (1, 8, some .nilFunc) := by kernel_rfl
theorem ag56 : aggT Try.prog 56 = some false := by kernel_rfl
theorem ti58 : tinf Try.prog 58 = some (1, 8, some .nilFunc) := by kernel_rfl
theorem ag58 : aggT Try.prog 58 = some false := by kernel_rfl
theorem ti59 : tinf Try.prog 59 = some (1, 8, some .nilFunc) := by kernel_rfl
theorem ag59 : aggT Try.prog 59 = some false := by kernel_rfl
theorem ti60 : tinf Try.prog 60 = some (1, 8, some .nilFunc) := by kernel_rfl
theorem ag60 : aggT Try.prog 60 = some false := by kernel_rfl
theorem ti61 : tinf Try.prog 61 = some (1, 8, some (.int .u64 0)) := by kernel_rfl
theorem ag61 : aggT Try.prog 61 = some false := by kernel_rfl
theorem ti62 : tinf Try.prog 62 = some (1, 8, some (.int .u64 0)) := by kernel_rfl
theorem ag62 : aggT Try.prog 62 = some false := by kernel_rfl
theorem ti63 : tinf Try.prog 63 = some (1, 8, some .nilFunc) := by kernel_rfl
theorem ag63 : aggT Try.prog 63 = some false := by kernel_rfl
theorem ti64 : tinf Try.prog 64 = some (1, 8, some .nilFunc) := by kernel_rfl
theorem ag64 : aggT Try.prog 64 = some false := by kernel_rfl
theorem ti65 : tinf Try.prog 65 = some (1, 8, some .nilFunc) := by kernel_rfl
theorem ag65 : aggT Try.prog 65 = some false := by kernel_rfl
theorem ti66 : tinf Try.prog 66 = some (1, 8, some (.pointer none)) := by kernel_rfl
theorem ag66 : aggT Try.prog 66 = some false := by kernel_rfl
theorem ti67 : tinf Try.prog 67 = some (1, 8, some .nilFunc) := by kernel_rfl
theorem ag67 : aggT Try.prog 67 = some false := by kernel_rfl
theorem ti68 : tinf Try.prog 68 = some (1, 8, some (.pointer none)) := by kernel_rfl
theorem ag68 : aggT Try.prog 68 = some false := by kernel_rfl
theorem ti70 : tinf Try.prog 70 = some (1, 8, some .nilFunc) := by kernel_rfl
theorem ag70 : aggT Try.prog 70 = some false := by kernel_rfl
theorem ti71 : tinf Try.prog 71 = some (1, 8, some .nilFunc) := by kernel_rfl
theorem ag71 : aggT Try.prog 71 = some false := by kernel_rfl
theorem ti72 : tinf Try.prog 72 = some (4, 40, some (.agg #[(.pointer none), (.pointer none), (.pointer none), (.string .empty)])) := by kernel_rfl
theorem ag72 : aggT Try.prog 72 = some true := by kernel_rfl
theorem ti73 : tinf Try.prog 73 = some (4, 40, some (.agg #[(.pointer none), (.pointer none), (.pointer none), (.string .empty)])) := by kernel_rfl
theorem ag73 : aggT Try.prog 73 = some true := by kernel_rfl
theorem ti74 : tinf Try.prog 74 = some (0, 0, some (.agg #[])) := by kernel_rfl
theorem ag74 : aggT Try.prog 74 = some true := by kernel_rfl
theorem ti75 : tinf Try.prog 75 = some (0, 0, some (.agg #[])) := by kernel_rfl
theorem ag75 : aggT Try.prog 75 = some true := by kernel_rfl
theorem ti76 : tinf Try.prog 76 = some (0, 0, some (.agg #[])) := by kernel_rfl
theorem ag76 : aggT Try.prog 76 = some true := by kernel_rfl
theorem ti77 : tinf Try.prog 77 = some (1, 8, some .nilFunc) := by kernel_rfl
theorem ag77 : aggT Try.prog 77 = some false := by kernel_rfl
theorem ti78 : tinf Try.prog 78 = some (1, 1, some (.int .u8 0)) := by kernel_rfl
theorem ag78 : aggT Try.prog 78 = some false := by kernel_rfl
theorem ti79 : tinf Try.prog 79 = some (1, 1, some (.int .u8 0)) := by kernel_rfl
theorem ag79 : aggT Try.prog 79 = some false := by kernel_rfl
theorem ti80 : tinf Try.prog 80 = some (1, 8, some .nilFunc) := by kernel_rfl
theorem ag80 : aggT Try.prog 80 = some false := by kernel_rfl
theorem ti81 : tinf Try.prog 81 = some (1, 8, some (.pointer none)) := by kernel_rfl
theorem ag81 : aggT Try.prog 81 = some false := by kernel_rfl
theorem ti82 : tinf Try.prog 82 = some (1, 4, some (.int .i32 0)) := by kernel_rfl
theorem ag82 : aggT Try.prog 82 = some false := by kernel_rfl
theorem ti83 : tinf Try.prog 83 = some (1, 4, some (.int .i32 0)) := by kernel_rfl
theorem ag83 : aggT Try.prog 83 = some false := by kernel_rfl
theorem ti84 : tinf Try.prog 84 = some (11, 48, some (.agg #[(.int .u64 0), (.int .u64 0), (.int .u32 0), (.int .u8 0), (.int .u8 0), (.int .u8 0), (.int .u8 0), .nilFunc, (.pointer none), (.int .i32 0), (.int .i32 0)])) := by kernel_rfl
theorem ag84 : aggT Try.prog 84 = some true := by kernel_rfl
theorem ti85 : tinf Try.prog 85 = some (11, 48, some (.agg #[(.int .u64 0), (.int .u64 0), (.int .u32 0), (.int .u8 0), (.int .u8 0), (.int .u8 0), (.int .u8 0), .nilFunc, (.pointer none), (.int .i32 0), (.int .i32 0)])) := by kernel_rfl
theorem ag85 : aggT Try.prog 85 = some true := by kernel_rfl
theorem cl3 : callable Try.prog 3 = true := by kernel_rfl
theorem cl4 : callable Try.prog 4 = true := by kernel_rfl
theorem cl5 : callable Try.prog 5 = true := by kernel_rfl
theorem cl6 : callable Try.prog 6 = true := by kernel_rfl
theorem cl7 : callable Try.prog 7 = true := by kernel_rfl
theorem cl8 : callable Try.prog 8 = true := by kernel_rfl
theorem cl9 : callable Try.prog 9 = true := by kernel_rfl
theorem cl10 : callable Try.prog 10 = true := by kernel_rfl
theorem cl11 : callable Try.prog 11 = true := by kernel_rfl
theorem cl12 : callable Try.prog 12 = true := by kernel_rfl
theorem cl14 : callable Try.prog 14 = true := by kernel_rfl
theorem cl15 : callable Try.prog 15 = true := by kernel_rfl
theorem cl20 : callable Try.prog 20 = true := by kernel_rfl
theorem cl24 : callable Try.prog 24 = true := by kernel_rfl
theorem cl25 : callable Try.prog 25 = true := by kernel_rfl
theorem cl26 : callable Try.prog 26 = true := by kernel_rfl
theorem cl32 : callable Try.prog 32 = true := by kernel_rfl
theorem cl35 : callable Try.prog 35 = true := by kernel_rfl
theorem cl36 : callable Try.prog 36 = true := by kernel_rfl
theorem cl39 : callable Try.prog 39 = true := by kernel_rfl
theorem cl42 : callable Try.prog 42 = true := by kernel_rfl
theorem mixed : Try.prog.follows .mixedOrders = true := by kernel_rfl

end Go.Proofs.Yteoalgkckhijlaa.Am
