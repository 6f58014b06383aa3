/- What the types and functions are. -/
import Derived.Test.YteclchefihcjkaaM26
import Derived.Test.YteclchefihcjkaaM28
import Derived.Test.YteclchefihcjkaaProg
import Derived.KernelRfl
namespace Go.Proofs.Yteclchefihcjkaa.Am
open Go

theorem ti1 : tinf Try.prog 1 = some (1, 8, some .nilFunc) := by kernel_rfl
theorem ag1 : aggT Try.prog 1 = some false := by kernel_rfl
theorem ti2 : tinf Try.prog 2 = some (1, 8, some (.int .i64 0)) := by kernel_rfl
theorem ag2 : aggT Try.prog 2 = some false := by kernel_rfl
theorem ti3 : tinf Try.prog 3 = some (1, 8, some (.int .i64 0)) := by kernel_rfl
theorem ag3 : aggT Try.prog 3 = some false := by kernel_rfl
theorem ti4 : tinf Try.prog 4 = some (1, 1, some (.bool false)) := by kernel_rfl
theorem ag4 : aggT Try.prog 4 = some false := by kernel_rfl
theorem ti5 : tinf Try.prog 5 = some (1, 1, some (.int .u8 0)) := by kernel_rfl
theorem ag5 : aggT Try.prog 5 = some false := by kernel_rfl
theorem ti6 : tinf Try.prog 6 = some (1, 1, some (.int .u8 0)) := by kernel_rfl
theorem ag6 : aggT Try.prog 6 = some false := by kernel_rfl
theorem ti7 : tinf Try.prog 7 = some (4, 24, some (.agg #[(.int .i64 0), (.int .i64 0), (.bool false), (.int .u8 0)])) := by kernel_rfl
theorem ag7 : aggT Try.prog 7 = some true := by kernel_rfl
theorem ti8 : tinf Try.prog 8 = some (4, 24, some (.agg #[(.int .i64 0), (.int .i64 0), (.bool false), (.int .u8 0)])) := by kernel_rfl
theorem ag8 : aggT Try.prog 8 = some true := by kernel_rfl
theorem ti9 : tinf Try.prog 9 = some (1, 16, some (.string .empty)) := by kernel_rfl
theorem ag9 : aggT Try.prog 9 = some false := by kernel_rfl
theorem ti10 : tinf Try.prog 10 = some (1, 16, some (.string .empty)) := by kernel_rfl
theorem ag10 : aggT Try.prog 10 = some false := by kernel_rfl
theorem ti11 : tinf Try.prog 11 = some (1, 16, some (.string .empty)) := by kernel_rfl
theorem ag11 : aggT Try.prog 11 = some false := by kernel_rfl
theorem ti12 : tinf Try.prog 12 = some (1, 8, some (.int .u64 0)) := by kernel_rfl
theorem ag12 : aggT Try.prog 12 = some false := by kernel_rfl
theorem ti13 : tinf Try.prog 13 = some (2, 24, some (.agg #[(.string .empty), (.int .u64 0)])) := by kernel_rfl
theorem ag13 : aggT Try.prog 13 = some true := by kernel_rfl
theorem ti14 : tinf Try.prog 14 = some (2, 24, some (.agg #[(.string .empty), (.int .u64 0)])) := by kernel_rfl
theorem ag14 : aggT Try.prog 14 = some true := by kernel_rfl
theorem ti15 : tinf Try.prog 15 = some (1, 8, some (.pointer none)) := by kernel_rfl
theorem ag15 : aggT Try.prog 15 = some false := by kernel_rfl
theorem ti16 : tinf Try.prog 16 = some (1, 8, some (.pointer none)) := by kernel_rfl
theorem ag16 : aggT Try.prog 16 = some false := by kernel_rfl
theorem ti17 : tinf Try.prog 17 = some (1, 8, some (.pointer none)) := by kernel_rfl
theorem ag17 : aggT Try.prog 17 = some false := by kernel_rfl
theorem ti18 : tinf Try.prog 18 = some (1, 8, some (.agg #[(.pointer none)])) := by kernel_rfl
theorem ag18 : aggT Try.prog 18 = some true := by kernel_rfl
theorem ti19 : tinf Try.prog 19 = some (1, 8, some (.agg #[(.pointer none)])) := by kernel_rfl
theorem ag19 : aggT Try.prog 19 = some true := by kernel_rfl
theorem ti20 : tinf Try.prog 20 = some (1, 16, some .nilIface) := by kernel_rfl
theorem ag20 : aggT Try.prog 20 = some false := by kernel_rfl
theorem ti21 : tinf Try.prog 21 = some (1, 4, some (.int .i32 0)) := by kernel_rfl
theorem ag21 : aggT Try.prog 21 = some false := by kernel_rfl
theorem ti22 : tinf Try.prog 22 = some (1, 24, some (.slice none 0 0)) := by kernel_rfl
theorem ag22 : aggT Try.prog 22 = some false := by kernel_rfl
theorem ti23 : tinf Try.prog 23 = some (1, 8, some (.int .u64 0)) := by kernel_rfl
theorem ag23 : aggT Try.prog 23 = some false := by kernel_rfl
theorem ti24 : tinf Try.prog 24 = some (1, 8, some .nilFunc) := by kernel_rfl
theorem ag24 : aggT Try.prog 24 = some false := by kernel_rfl
theorem ti25 : tinf Try.prog 25 = some (1, 8, some (.pointer none)) := by kernel_rfl
theorem ag25 : aggT Try.prog 25 = some false := by kernel_rfl
theorem ti26 : tinf Try.prog 26 = some (1, 8, some .nilFunc) := by kernel_rfl
theorem ag26 : aggT Try.prog 26 = some false := by kernel_rfl
theorem ti27 : tinf Try.prog 27 = some (1, 24, some (.slice none 0 0)) := by kernel_rfl
theorem ag27 : aggT Try.prog 27 = some false := by kernel_rfl
theorem ti28 : tinf Try.prog 28 = some (8, 192, some (.agg #[(.slice none 0 0), (.slice none 0 0), (.slice none 0 0), (.slice none 0 0), (.slice none 0 0), (.slice none 0 0), (.slice none 0 0), (.slice none 0 0)])) := by kernel_rfl
theorem ag28 : aggT Try.prog 28 = some true := by kernel_rfl
theorem ti29 : tinf Try.prog 29 = some (1, 8, some (.int .i64 0)) := by kernel_rfl
theorem ag29 : aggT Try.prog 29 = some false := by kernel_rfl
theorem ti30 : tinf Try.prog 30 = some (1, 8, some .nilFunc) := by kernel_rfl
theorem ag30 : aggT Try.prog 30 = some false := by kernel_rfl
theorem ti31 : tinf Try.prog 31 = some (1, 8, some .nilFunc) := by kernel_rfl
theorem ag31 : aggT Try.prog 31 = some false := by kernel_rfl
theorem ti32 : tinf Try.prog 32 = some (1, 8, some .nilFunc) := by kernel_rfl
theorem ag32 : aggT Try.prog 32 = some false := by kernel_rfl
theorem ti33 : tinf Try.prog 33 = some (1, 8, some .nilFunc) := by kernel_rfl
theorem ag33 : aggT Try.prog 33 = some false := by kernel_rfl
theorem ti34 : tinf Try.prog 34 = some (1, 8, some .nilFunc) := by kernel_rfl
theorem ag34 : aggT Try.prog 34 = some false := by kernel_rfl
theorem ti35 : tinf Try.prog 35 = some (1, 8, some .nilFunc) := by kernel_rfl
theorem ag35 : aggT Try.prog 35 = some false := by kernel_rfl
theorem ti36 : tinf Try.prog 36 = some (1, 8, some .nilFunc) := by kernel_rfl
theorem ag36 : aggT Try.prog 36 = some false := by kernel_rfl
theorem ti37 : tinf Try.prog 37 = some (5, 5, some (.agg #[(.int .u8 0), (.int .u8 0), (.int .u8 0), (.int .u8 0), (.int .u8 0)])) := by kernel_rfl
theorem ag37 : aggT Try.prog 37 = some true := by kernel_rfl
theorem ti38 : tinf Try.prog 38 = some (1, 8, some .nilFunc) := by kernel_rfl
theorem ag38 : aggT Try.prog 38 = some false := by kernel_rfl
theorem ti39 : tinf Try.prog 39 = some (1, 1, some (.int .i8 0)) := by kernel_rfl
theorem ag39 : aggT Try.prog 39 = some false := by kernel_rfl
theorem ti40 : tinf Try.prog 40 = some (1, 8, some .nilFunc) := by kernel_rfl
theorem ag40 : aggT Try.prog 40 = some false := by kernel_rfl
theorem ti41 : tinf Try.prog 41 = some (3, 24, some (.agg #[(.int .u64 0), (.int .u64 0), (.int .i64 0)])) := by kernel_rfl
theorem ag41 : aggT Try.prog 41 = some true := by kernel_rfl
theorem ti42 : tinf Try.prog 42 = some (3, 24, some (.agg #[(.int .u64 0), (.int .u64 0), (.int .i64 0)])) := by kernel_rfl
theorem ag42 : aggT Try.prog 42 = some true := by kernel_rfl
theorem ti43 : tinf Try.prog 43 = some (1, 2, some (.int .u16 0)) := by kernel_rfl
theorem ag43 : aggT Try.prog 43 = some false := by kernel_rfl
theorem ti44 : tinf Try.prog 44 = some (1, 24, some (.slice none 0 0)) := by kernel_rfl
theorem ag44 : aggT Try.prog 44 = some false := by kernel_rfl
theorem ti45 : tinf Try.prog 45 = some (1, 8, some .nilFunc) := by kernel_rfl
theorem ag45 : aggT Try.prog 45 = some false := by kernel_rfl
theorem ti46 : tinf Try.prog 46 = some (1, 8, some .nilFunc) := by kernel_rfl
theorem ag46 : aggT Try.prog 46 = some false := by kernel_rfl
theorem ti47 : tinf Try.prog 47 = some (3, 24, some (.agg #[(.int .u64 0), (.int .u64 0), (.int .i64 0)])) := by kernel_rfl
theorem ag47 : aggT Try.prog 47 = some true := by kernel_rfl
theorem ti48 : tinf Try.prog 48 = some (1, 8, some .nilFunc) := by kernel_rfl
theorem ag48 : aggT Try.prog 48 = some false := by kernel_rfl
theorem ti50 : tinf Try.prog 50 = some (1, 8, some .nilFunc) := by kernel_rfl
theorem ag50 : aggT Try.prog 50 = some false := by kernel_rfl
theorem ti52 : tinf Try.prog 52 = some (1, 8, some .nilFunc) := by kernel_rfl
theorem ag52 : aggT Try.prog 52 = some false := by kernel_rfl
theorem ti53 : tinf Try.prog 53 = some (1, 8, some .nilFunc) := by kernel_rfl
theorem ag53 : aggT Try.prog 53 = some false := by kernel_rfl
theorem ti54 : tinf Try.prog 54 = some (1, 24, some (.slice none 0 0)) := by kernel_rfl
theorem ag54 : aggT Try.prog 54 = some false := by kernel_rfl
theorem ti55 : tinf Try.prog 55 = some (1, 4, some (.int .u32 0)) := by kernel_rfl
theorem ag55 : aggT Try.prog 55 = some false := by kernel_rfl
theorem ti56 : tinf Try.prog 56 = some (1, 8, some .nilFunc) := by kernel_rfl
theorem ag56 : aggT Try.prog 56 = some false := by kernel_rfl
theorem ti57 : tinf Try.prog 57 = some (1, 8, some .nilFunc) := by kernel_rfl
theorem ag57 : aggT Try.prog 57 = some false := by kernel_rfl
theorem ti58 : tinf Try.prog 58 = some (1, 8, some .nilFunc) := by kernel_rfl
theorem ag58 : aggT Try.prog 58 = some false := by kernel_rfl
theorem ti59 : tinf Try.prog 59 = some (1, 8, some (.pointer none)) := by kernel_rfl
theorem ag59 : aggT Try.prog 59 = some false := by kernel_rfl
theorem ti60 : tinf Try.prog 60 = some (1, 8, some .nilFunc) := by kernel_rfl
theorem ag60 : aggT Try.prog 60 = some false := by kernel_rfl
theorem ti61 : tinf Try.prog 61 = some (1, 8, some .nilFunc) := by kernel_rfl
theorem ag61 : aggT Try.prog 61 = some false := by kernel_rfl
theorem ti62 : tinf Try.prog 62 = some (1, 8, some .nilFunc) := by kernel_rfl
theorem ag62 : aggT Try.prog 62 = some false := by kernel_rfl
theorem ti63 : tinf Try.prog 63 = some (1, 8, some .nilFunc) := by kernel_rfl
theorem ag63 : aggT Try.prog 63 = some false := by kernel_rfl
theorem ti64 : tinf Try.prog 64 = some (1, 8, some .nilFunc) := by kernel_rfl
theorem ag64 : aggT Try.prog 64 = some false := by kernel_rfl
theorem ti66 : tinf Try.prog 66 = some (1, 8, some .nilFunc) := by kernel_rfl
theorem ag66 : aggT Try.prog 66 = some false := by kernel_rfl
theorem ti68 : tinf Try.prog 68 = some (1, 8, some .nilFunc) := by kernel_rfl
theorem ag68 : aggT Try.prog 68 = some false := by kernel_rfl
theorem ti69 : tinf Try.prog 69 = some (1, 8, some .nilFunc) := by kernel_rfl
theorem ag69 : aggT Try.prog 69 = some false := by kernel_rfl
theorem ti70 : tinf Try.prog 70 = some (2, 16, some (.agg #[(.int .i64 0), (.int .i64 0)])) := by kernel_rfl
theorem ag70 : aggT Try.prog 70 = some true := by kernel_rfl
theorem ti71 : tinf Try.prog 71 = some (1, 24, some (.slice none 0 0)) := by kernel_rfl
theorem ag71 : aggT Try.prog 71 = some false := by kernel_rfl
theorem ti73 : tinf Try.prog 73 = some (1, 8, some .nilFunc) := by kernel_rfl
theorem ag73 : aggT Try.prog 73 = some false := by kernel_rfl
theorem ti74 : tinf Try.prog 74 = some (1, 8, some .nilFunc) := by kernel_rfl
theorem ag74 : aggT Try.prog 74 = some false := by kernel_rfl
theorem ti75 : tinf Try.prog 75 = some (1, 8, some .nilFunc) := by kernel_rfl
theorem ag75 : aggT Try.prog 75 = some false := by kernel_rfl
theorem ti76 : tinf Try.prog 76 = some (1, 8, some .nilFunc) := by kernel_rfl
theorem ag76 : aggT Try.prog 76 = some false := by kernel_rfl
theorem ti77 : tinf Try.prog 77 = some (1, 8, some .nilFunc) := by kernel_rfl
theorem ag77 : aggT Try.prog 77 = some false := by kernel_rfl
theorem ti78 : tinf Try.prog 78 = some (1, 8, some .nilFunc) := by kernel_rfl
theorem ag78 : aggT Try.prog 78 = some false := by kernel_rfl
theorem ti79 : tinf Try.prog 79 = some (1, 8, some .nilFunc) := by kernel_rfl
theorem ag79 : aggT Try.prog 79 = some false := by kernel_rfl
theorem ti80 : tinf Try.prog 80 = some (1, 8, some .nilFunc) := by kernel_rfl
theorem ag80 : aggT Try.prog 80 = some false := by kernel_rfl
theorem ti81 : tinf Try.prog 81 = some (1, 8, some .nilFunc) := by kernel_rfl
theorem ag81 : aggT Try.prog 81 = some false := by kernel_rfl
theorem ti82 : tinf Try.prog 82 = some (1, 8, some (.map none)) := by kernel_rfl
theorem ag82 : aggT Try.prog 82 = some false := by kernel_rfl
theorem ti83 : tinf Try.prog 83 = some (1, 8, some (.map none)) := by kernel_rfl
theorem ag83 : aggT Try.prog 83 = some false := by kernel_rfl
theorem ti84 : tinf Try.prog 84 = some (1, 24, some (.slice none 0 0)) := by kernel_rfl
theorem ag84 : aggT Try.prog 84 = some false := by kernel_rfl
theorem ti85 : tinf Try.prog 85 = some (5, 56, some (.agg #[(.int .i64 0), (.map none), (.map none), (.slice none 0 0), (.int .i64 0)])) := by kernel_rfl
theorem ag85 : aggT Try.prog 85 = some true := by kernel_rfl
theorem ti86 : tinf Try.prog 86 = some (5, 56, some (.agg #[(.int .i64 0), (.map none), (.map none), (.slice none 0 0), (.int .i64 0)])) := by kernel_rfl
theorem ag86 : aggT Try.prog 86 = some true := by kernel_rfl
theorem ti87 : tinf Try.prog 87 = some (2, 32, some (.agg #[(.int .i64 0), (.slice none 0 0)])) := by kernel_rfl
theorem ag87 : aggT Try.prog 87 = some true := by kernel_rfl
theorem ti88 : tinf Try.prog 88 = some (2, 32, some (.agg #[(.int .i64 0), (.slice none 0 0)])) := by kernel_rfl
theorem ag88 : aggT Try.prog 88 = some true := by kernel_rfl
theorem ti89 : tinf Try.prog 89 = some (1, 8, some .nilFunc) := by kernel_rfl
theorem ag89 : aggT Try.prog 89 = some false := by kernel_rfl
theorem ti90 : tinf Try.prog 90 = some (1, 8, some .nilFunc) := by kernel_rfl
theorem ag90 : aggT Try.prog 90 = some false := by kernel_rfl
theorem ti91 : tinf Try.prog 91 = some (1, 8, some .nilFunc) := by kernel_rfl
theorem ag91 : aggT Try.prog 91 = some false := by kernel_rfl
theorem ti92 : tinf Try.prog 92 = some (1, 8, some .nilFunc) := by kernel_rfl
theorem ag92 : aggT Try.prog 92 = some false := by kernel_rfl
theorem ti93 : tinf Try.prog 93 = some (1, 24, some (.slice none 0 0)) := by kernel_rfl
theorem ag93 : aggT Try.prog 93 = some false := by kernel_rfl
theorem ti94 : tinf Try.prog 94 = some (3, 56, some (.agg #[(.slice none 0 0), (.slice none 0 0), (.int .i64 0)])) := by kernel_rfl
theorem ag94 : aggT Try.prog 94 = some true := by kernel_rfl
theorem ti95 : tinf Try.prog 95 = some (3, 56, some (.agg #[(.slice none 0 0), (.slice none 0 0), (.int .i64 0)])) := by kernel_rfl
theorem ag95 : aggT Try.prog 95 = some true := by kernel_rfl
theorem ti96 : tinf Try.prog 96 = some (2, 32, some (.agg #[(.int .i64 0), (.slice none 0 0)])) := by kernel_rfl
theorem ag96 : aggT Try.prog 96 = some true := by kernel_rfl
theorem ti97 : tinf Try.prog 97 = some (2, 32, some (.agg #[(.int .i64 0), (.slice none 0 0)])) := by kernel_rfl
theorem ag97 : aggT Try.prog 97 = some true := by kernel_rfl
theorem ti98 : tinf Try.prog 98 = some (1, 8, some .nilFunc) := by kernel_rfl
theorem ag98 : aggT Try.prog 98 = some false := by kernel_rfl
theorem ti99 : tinf Try.prog 99 = some (1, 8, some .nilFunc) := by kernel_rfl
theorem ag99 : aggT Try.prog 99 = some false := by kernel_rfl
theorem ti100 : tinf Try.prog 100 = some (1, 8, some .nilFunc) := by kernel_rfl
theorem ag100 : aggT Try.prog 100 = some false := by kernel_rfl
theorem ti101 : tinf Try.prog 101 = some (1, 8, some .nilFunc) := by kernel_rfl
theorem ag101 : aggT Try.prog 101 = some false := by kernel_rfl
theorem ti102 : tinf Try.prog 102 = some (1, 8, some .nilFunc) := by kernel_rfl
theorem ag102 : aggT Try.prog 102 = some false := by kernel_rfl
theorem ti104 : tinf Try.prog 104 = some (1, 8, some .nilFunc) := by kernel_rfl
theorem ag104 : aggT Try.prog 104 = some false := by kernel_rfl
theorem ti106 : tinf Try.prog 106 = some (1, 8, some .nilFunc) := by kernel_rfl
theorem ag106 : aggT Try.prog 106 = some false := by kernel_rfl
theorem ti107 : tinf Try.prog 107 = some (1, 8, some (.int .u64 0)) := by kernel_rfl
theorem ag107 : aggT Try.prog 107 = some false := by kernel_rfl
theorem ti108 : tinf Try.prog 108 = some (1, 8, some .nilFunc) := by kernel_rfl
theorem ag108 : aggT Try.prog 108 = some false := by kernel_rfl
theorem ti109 : tinf Try.prog 109 = some (1, 8, some .nilFunc) := by kernel_rfl
theorem ag109 : aggT Try.prog 109 = some false := by kernel_rfl
theorem ti111 : tinf Try.prog 111 = some (1, 8, some .nilFunc) := by kernel_rfl
theorem ag111 : aggT Try.prog 111 = some false := by kernel_rfl
theorem ti112 : tinf Try.prog 112 = some (1, 8, some (.pointer none)) := by kernel_rfl
theorem ag112 : aggT Try.prog 112 = some false := by kernel_rfl
theorem ti113 : tinf Try.prog 113 = some (1, 8, some .nilFunc) := by kernel_rfl
theorem ag113 : aggT Try.prog 113 = some false := by kernel_rfl
theorem ti114 : tinf Try.prog 114 = some (1, 8, some .nilFunc) := by kernel_rfl
theorem ag114 : aggT Try.prog 114 = some false := by kernel_rfl
theorem ti115 : tinf Try.prog 115 = some (2, 32, some (.agg #[(.slice none 0 0), (.int .i64 0)])) := by kernel_rfl
theorem ag115 : aggT Try.prog 115 = some true := by kernel_rfl
theorem ti116 : tinf Try.prog 116 = some (2, 32, some (.agg #[(.slice none 0 0), (.int .i64 0)])) := by kernel_rfl
theorem ag116 : aggT Try.prog 116 = some true := by kernel_rfl
theorem ti117 : tinf Try.prog 117 = some (2, 32, some (.agg #[(.slice none 0 0), (.int .i64 0)])) := by kernel_rfl
theorem ag117 : aggT Try.prog 117 = some true := by kernel_rfl
theorem ti118 : tinf Try.prog 118 = some (2, 32, some (.agg #[(.slice none 0 0), (.int .i64 0)])) := by kernel_rfl
theorem ag118 : aggT Try.prog 118 = some true := by kernel_rfl
theorem ti119 : tinf Try.prog 119 = some (1, 8, some .nilFunc) := by kernel_rfl
theorem ag119 : aggT Try.prog 119 = some false := by kernel_rfl
theorem ti120 : tinf Try.prog 120 = some (1, 8, some (.pointer none)) := by kernel_rfl
theorem ag120 : aggT Try.prog 120 = some false := by kernel_rfl
theorem ti121 : tinf Try.prog 121 = some (2, 32, some (.agg #[(.slice none 0 0), (.int .i64 0)])) := by kernel_rfl
theorem ag121 : aggT Try.prog 121 = some true := by kernel_rfl
theorem ti122 : tinf Try.prog 122 = some (2, 32, some (.agg #[(.slice none 0 0), (.int .i64 0)])) := by kernel_rfl
theorem ag122 : aggT Try.prog 122 = some true := by kernel_rfl
theorem ti123 : tinf Try.prog 123 = some (1, 8, some .nilFunc) := by kernel_rfl
theorem ag123 : aggT Try.prog 123 = some false := by kernel_rfl
theorem ti124 : tinf Try.prog 124 = some (1, 8, some .nilFunc) := by kernel_rfl
theorem ag124 : aggT Try.prog 124 = some false := by kernel_rfl
theorem ti125 : tinf Try.prog 125 = some (1, 8, some .nilFunc) := by kernel_rfl
theorem ag125 : aggT Try.prog 125 = some false := by kernel_rfl
theorem ti127 : tinf Try.prog 127 = some (1, 8, some .nilFunc) := by kernel_rfl
theorem ag127 : aggT Try.prog 127 = some false := by kernel_rfl
theorem ti128 : tinf Try.prog 128 = some (1, 8, some .nilFunc) := by kernel_rfl
theorem ag128 : aggT Try.prog 128 = some false := by kernel_rfl
theorem ti129 : tinf Try.prog 129 = some (1, 8, some (.pointer none)) := by kernel_rfl
theorem ag129 : aggT Try.prog 129 = some false := by kernel_rfl
theorem ti130 : tinf Try.prog 130 = some (1, 8, some .nilFunc) := by kernel_rfl
theorem ag130 : aggT Try.prog 130 = some false := by kernel_rfl
theorem ti131 : tinf Try.prog 131 = some (1, 8, some .nilFunc) := by kernel_rfl
theorem ag131 : aggT Try.prog 131 = some false := by kernel_rfl
theorem ti132 : tinf Try.prog 132 = some (4, 40, some (.agg #[(.pointer none), (.pointer none), (.pointer none), (.string .empty)])) := by kernel_rfl
theorem ag132 : aggT Try.prog 132 = some true := by kernel_rfl
theorem ti133 : tinf Try.prog 133 = some (4, 40, some (.agg #[(.pointer none), (.pointer none), (.pointer none), (.string .empty)])) := by kernel_rfl
theorem ag133 : aggT Try.prog 133 = some true := by kernel_rfl
theorem ti134 : tinf Try.prog 134 = some (0, 0, some (.agg #[])) := by kernel_rfl
theorem ag134 : aggT Try.prog 134 = some true := by kernel_rfl
theorem ti135 : tinf Try.prog 135 = some (0, 0, some (.agg #[])) := by kernel_rfl
theorem ag135 : aggT Try.prog 135 = some true := by kernel_rfl
theorem ti136 : tinf Try.prog 136 = some (0, 0, some (.agg #[])) := by kernel_rfl
theorem ag136 : aggT Try.prog 136 = some true := by kernel_rfl
theorem ti137 : tinf Try.prog 137 = some (1, 1, some (.int .u8 0)) := by kernel_rfl
theorem ag137 : aggT Try.prog 137 = some false := by kernel_rfl
theorem ti138 : tinf Try.prog 138 = some (1, 1, some (.int .u8 0)) := by kernel_rfl
theorem ag138 : aggT Try.prog 138 = some false := by kernel_rfl
theorem ti139 : tinf Try.prog 139 = some (1, 8, some .nilFunc) := by kernel_rfl
theorem ag139 : aggT Try.prog 139 = some false := by kernel_rfl
theorem ti140 : tinf Try.prog 140 = some (1, 8, some (.pointer none)) := by kernel_rfl
theorem ag140 : aggT Try.prog 140 = some false := by kernel_rfl
theorem ti141 : tinf Try.prog 141 = some (1, 4, some (.int .i32 0)) := by kernel_rfl
theorem ag141 : aggT Try.prog 141 = some false := by kernel_rfl
theorem ti142 : tinf Try.prog 142 = some (1, 4, some (.int .i32 0)) := by kernel_rfl
theorem ag142 : aggT Try.prog 142 = some false := by kernel_rfl
theorem ti143 : tinf Try.prog 143 = some (11, 48, some (.agg #[(.int .u64 0), (.int .u64 0), (.int .u32 0), (.int .u8 0), (.int .u8 0), (.int .u8 0), (.int .u8 0), .nilFunc, (.pointer none), (.int .i32 0), (.int .i32 0)])) := by kernel_rfl
theorem ag143 : aggT Try.prog 143 = some true := by kernel_rfl
theorem ti144 : tinf Try.prog 144 = some (11, 48, some (.agg #[(.int .u64 0), (.int .u64 0), (.int .u32 0), (.int .u8 0), (.int .u8 0), (.int .u8 0), (.int .u8 0), .nilFunc, (.pointer none), (.int .i32 0), (.int .i32 0)])) := by kernel_rfl
theorem ag144 : aggT Try.prog 144 = some true := by kernel_rfl
def pl86 (i : Nat) : Option (Nat × Nat) := [(0, 1), (1, 1), (2, 1), (3, 1), (4, 1)][i]?
theorem fp86 (fs : Array Field) (h : Try.prog.underlying 86 = some (.struct fs)) : ∀ i, fplace Try.prog fs i = pl86 i := by
  rw [Try.underlying86] at h
  cases h
  intro i
  match i with
  | 0 => simp [fplace, pl86, ti3]
  | 1 => simp [fplace, pl86, ti83]
  | 2 => simp [fplace, pl86, ti83]
  | 3 => simp [fplace, pl86, ti84]
  | 4 => simp [fplace, pl86, ti3]
  | n + 5 => simp [fplace, pl86]
theorem fa86 (fs : Array Field) (h : Try.prog.underlying 86 = some (.struct fs)) : fs.all (fun f => (tinf Try.prog f.type).isSome) = true := by
  rw [Try.underlying86] at h
  cases h
  simp [ti3, ti83, ti84]
def pl88 (i : Nat) : Option (Nat × Nat) := [(0, 1), (1, 1)][i]?
theorem fp88 (fs : Array Field) (h : Try.prog.underlying 88 = some (.struct fs)) : ∀ i, fplace Try.prog fs i = pl88 i := by
  rw [Try.underlying88] at h
  cases h
  intro i
  match i with
  | 0 => simp [fplace, pl88, ti3]
  | 1 => simp [fplace, pl88, ti27]
  | n + 2 => simp [fplace, pl88]
theorem fa88 (fs : Array Field) (h : Try.prog.underlying 88 = some (.struct fs)) : fs.all (fun f => (tinf Try.prog f.type).isSome) = true := by
  rw [Try.underlying88] at h
  cases h
  simp [ti27, ti3]
def pl116 (i : Nat) : Option (Nat × Nat) := [(0, 1), (1, 1)][i]?
theorem fp116 (fs : Array Field) (h : Try.prog.underlying 116 = some (.struct fs)) : ∀ i, fplace Try.prog fs i = pl116 i := by
  rw [Try.underlying116] at h
  cases h
  intro i
  match i with
  | 0 => simp [fplace, pl116, ti27]
  | 1 => simp [fplace, pl116, ti29]
  | n + 2 => simp [fplace, pl116]
theorem fa116 (fs : Array Field) (h : Try.prog.underlying 116 = some (.struct fs)) : fs.all (fun f => (tinf Try.prog f.type).isSome) = true := by
  rw [Try.underlying116] at h
  cases h
  simp [ti27, ti29]
def pl118 (i : Nat) : Option (Nat × Nat) := [(0, 2)][i]?
theorem fp118 (fs : Array Field) (h : Try.prog.underlying 118 = some (.struct fs)) : ∀ i, fplace Try.prog fs i = pl118 i := by
  rw [Try.underlying118] at h
  cases h
  intro i
  match i with
  | 0 => simp [fplace, pl118, ti116]
  | n + 1 => simp [fplace, pl118]
theorem fa118 (fs : Array Field) (h : Try.prog.underlying 118 = some (.struct fs)) : fs.all (fun f => (tinf Try.prog f.type).isSome) = true := by
  rw [Try.underlying118] at h
  cases h
  simp [ti116]
theorem cl12 : callable Try.prog 12 = true := by kernel_rfl
theorem cl13 : callable Try.prog 13 = true := by kernel_rfl
theorem cl15 : callable Try.prog 15 = true := by kernel_rfl
theorem cl16 : callable Try.prog 16 = true := by kernel_rfl
theorem cl17 : callable Try.prog 17 = true := by kernel_rfl
theorem cl18 : callable Try.prog 18 = true := by kernel_rfl
theorem cl19 : callable Try.prog 19 = true := by kernel_rfl
theorem cl35 : callable Try.prog 35 = true := by kernel_rfl
theorem cl37 : callable Try.prog 37 = true := by kernel_rfl
theorem cl39 : callable Try.prog 39 = true := by kernel_rfl
theorem cl41 : callable Try.prog 41 = true := by kernel_rfl
theorem cl43 : callable Try.prog 43 = true := by kernel_rfl
theorem cl45 : callable Try.prog 45 = true := by kernel_rfl
theorem cl47 : callable Try.prog 47 = true := by kernel_rfl
theorem cl48 : callable Try.prog 48 = true := by kernel_rfl
theorem cl49 : callable Try.prog 49 = true := by kernel_rfl
theorem cl50 : callable Try.prog 50 = true := by kernel_rfl
theorem cl54 : callable Try.prog 54 = true := by kernel_rfl
theorem cl60 : callable Try.prog 60 = true := by kernel_rfl
theorem cl61 : callable Try.prog 61 = true := by kernel_rfl
theorem cl62 : callable Try.prog 62 = true := by kernel_rfl
theorem cl63 : callable Try.prog 63 = true := by kernel_rfl
theorem cl65 : callable Try.prog 65 = true := by kernel_rfl
theorem cl66 : callable Try.prog 66 = true := by kernel_rfl
theorem cl67 : callable Try.prog 67 = true := by kernel_rfl
theorem cl70 : callable Try.prog 70 = true := by kernel_rfl
theorem cl71 : callable Try.prog 71 = true := by kernel_rfl
theorem cl72 : callable Try.prog 72 = true := by kernel_rfl
theorem cl75 : callable Try.prog 75 = true := by kernel_rfl
theorem cl76 : callable Try.prog 76 = true := by kernel_rfl
theorem cl77 : callable Try.prog 77 = true := by kernel_rfl
theorem cl78 : callable Try.prog 78 = true := by kernel_rfl
theorem cl79 : callable Try.prog 79 = true := by kernel_rfl
theorem cl80 : callable Try.prog 80 = true := by kernel_rfl
theorem cl83 : callable Try.prog 83 = true := by kernel_rfl
theorem cl84 : callable Try.prog 84 = true := by kernel_rfl
theorem cl88 : callable Try.prog 88 = true := by kernel_rfl
theorem cl89 : callable Try.prog 89 = true := by kernel_rfl
theorem cl90 : callable Try.prog 90 = true := by kernel_rfl
theorem cl91 : callable Try.prog 91 = true := by kernel_rfl
theorem mixed : Try.prog.follows .mixedOrders = true := by kernel_rfl

end Go.Proofs.Yteclchefihcjkaa.Am
