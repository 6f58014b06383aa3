/- What the types and functions are. -/
import Derived.Test.YtombabaadbobpaaM24
import Derived.Test.YtombabaadbobpaaProg
import Derived.KernelRfl
namespace Go.Proofs.Ytombabaadbobpaa.Am
open Go

theorem ti1 : tinf Try.prog 1 = some (1, 8, some .nilFunc) := by kernel_rfl
theorem ag1 : aggT Try.prog 1 = some false := by kernel_rfl
theorem ti2 : tinf Try.prog 2 = some (1, 8, some (.int .i64 0)) := by kernel_rfl
theorem ag2 : aggT Try.prog 2 = some false := by kernel_rfl
theorem ti3 : tinf Try.prog 3 = some (1, 8, some (.int .i64 0)) := by kernel_rfl
theorem ag3 : aggT Try.prog 3 = some false := by kernel_rfl
theorem ti4 : tinf Try.prog 4 = some (1, 1, some (.bool false)) := by kernel_rfl
theorem ag4 : aggT Try.prog 4 = some false := by kernel_rfl
theorem ti5 : tinf Try.prog 5 = some (1, 1, some (.int .u8 0)) := by kernel_rfl
theorem ag5 : aggT Try.prog 5 = some false := by kernel_rfl
theorem ti6 : tinf Try.prog 6 = some (1, 1, some (.int .u8 0)) := by kernel_rfl
theorem ag6 : aggT Try.prog 6 = some false := by kernel_rfl
theorem ti7 : tinf Try.prog 7 = some (4, 24, some (.agg #[(.int .i64 0), (.int .i64 0), (.bool false), (.int .u8 0)])) := by kernel_rfl
theorem ag7 : aggT Try.prog 7 = some true := by kernel_rfl
theorem ti8 : tinf Try.prog 8 = some (4, 24, some (.agg #[(.int .i64 0), (.int .i64 0), (.bool false), (.int .u8 0)])) := by kernel_rfl
theorem ag8 : aggT Try.prog 8 = some true := by kernel_rfl
theorem ti9 : tinf Try.prog 9 = some (1, 16, some (.string .empty)) := by kernel_rfl
theorem ag9 : aggT Try.prog 9 = some false := by kernel_rfl
theorem ti10 : tinf Try.prog 10 = some (1, 16, some (.string .empty)) := by kernel_rfl
theorem ag10 : aggT Try.prog 10 = some false := by kernel_rfl
theorem ti11 : tinf Try.prog 11 = some (1, 16, some (.string .empty)) := by kernel_rfl
theorem ag11 : aggT Try.prog 11 = some false := by kernel_rfl
theorem ti12 : tinf Try.prog 12 = some (1, 8, some (.int .u64 0)) := by kernel_rfl
theorem ag12 : aggT Try.prog 12 = some false := by kernel_rfl
theorem ti13 : tinf Try.prog 13 = some (2, 24, some (.agg #[(.string .empty), (.int .u64 0)])) := by kernel_rfl
theorem ag13 : aggT Try.prog 13 = some true := by kernel_rfl
theorem ti14 : tinf Try.prog 14 = some (2, 24, some (.agg #[(.string .empty), (.int .u64 0)])) := by kernel_rfl
theorem ag14 : aggT Try.prog 14 = some true := by kernel_rfl
theorem ti15 : tinf Try.prog 15 = some (1, 8, some (.pointer none)) := by kernel_rfl
theorem ag15 : aggT Try.prog 15 = some false := by kernel_rfl
theorem ti16 : tinf Try.prog 16 = some (1, 8, some (.pointer none)) := by kernel_rfl
theorem ag16 : aggT Try.prog 16 = some false := by kernel_rfl
theorem ti17 : tinf Try.prog 17 = some (1, 8, some (.pointer none)) := by kernel_rfl
theorem ag17 : aggT Try.prog 17 = some false := by kernel_rfl
theorem ti18 : tinf Try.prog 18 = some (1, 8, some (.agg #[(.pointer none)])) := by kernel_rfl
theorem ag18 : aggT Try.prog 18 = some true := by kernel_rfl
theorem ti19 : tinf Try.prog 19 = some (1, 8, some (.agg #[(.pointer none)])) := by kernel_rfl
theorem ag19 : aggT Try.prog 19 = some true := by kernel_rfl
theorem ti20 : tinf Try.prog 20 = some (1, 16, some .nilIface) := by kernel_rfl
theorem ag20 : aggT Try.prog 20 = some false := by kernel_rfl
theorem ti21 : tinf Try.prog 21 = some (1, 4, some (.int .i32 0)) := by kernel_rfl
theorem ag21 : aggT Try.prog 21 = some false := by kernel_rfl
theorem ti22 : tinf Try.prog 22 = some (1, 24, some (.slice none 0 0)) := by kernel_rfl
theorem ag22 : aggT Try.prog 22 = some false := by kernel_rfl
theorem ti23 : tinf Try.prog 23 = some (1, 8, some .nilFunc) := by kernel_rfl
theorem ag23 : aggT Try.prog 23 = some false := by kernel_rfl
theorem ti24 : tinf Try.prog 24 = some (1, 8, some (.pointer none)) := by kernel_rfl
theorem ag24 : aggT Try.prog 24 = some false := by kernel_rfl
theorem ti25 : tinf Try.prog 25 = some (1, 8, some .nilFunc) := by kernel_rfl
theorem ag25 : aggT Try.prog 25 = some false := by kernel_rfl
theorem ti26 : tinf Try.prog 26 = some (1, 8, some (.pointer none)) := by kernel_rfl
theorem ag26 : aggT Try.prog 26 = some false := by kernel_rfl
theorem ti27 : tinf Try.prog 27 = some (1, 24, some (.slice none 0 0)) := by kernel_rfl
theorem ag27 : aggT Try.prog 27 = some false := by kernel_rfl
theorem ti28 : tinf Try.prog 28 = some (1, 24, some (.agg #[(.slice none 0 0)])) := by kernel_rfl
theorem ag28 : aggT Try.prog 28 = some true := by kernel_rfl
theorem ti29 : tinf Try.prog 29 = some (1, 24, some (.agg #[(.slice none 0 0)])) := by kernel_rfl
theorem ag29 : aggT Try.prog 29 = some true := by kernel_rfl
theorem ti30 : tinf Try.prog 30 = some (3, 40, some (.agg #[(.int .u8 0), (.int .i64 0), (.slice none 0 0)])) := by kernel_rfl
theorem ag30 : aggT Try.prog 30 = some true := by kernel_rfl
theorem ti31 : tinf Try.prog 31 = some (3, 40, some (.agg #[(.int .u8 0), (.int .i64 0), (.slice none 0 0)])) := by kernel_rfl
theorem ag31 : aggT Try.prog 31 = some true := by kernel_rfl
theorem ti32 : tinf Try.prog 32 = some (1, 8, some .nilFunc) := by kernel_rfl
theorem ag32 : aggT Try.prog 32 = some false := by kernel_rfl
theorem ti33 : tinf Try.prog 33 = some (1, 24, some (.slice none 0 0)) := by kernel_rfl
theorem ag33 : aggT Try.prog 33 = some false := by kernel_rfl
theorem ti34 : tinf Try.prog 34 = some (3, 40, some (.agg #[(.int .i64 0), (.int .i64 0), (.slice none 0 0)])) := by kernel_rfl
theorem ag34 : aggT Try.prog 34 = some true := by kernel_rfl
theorem ti35 : tinf Try.prog 35 = some (3, 40, some (.agg #[(.int .i64 0), (.int .i64 0), (.slice none 0 0)])) := by kernel_rfl
theorem ag35 : aggT Try.prog 35 = some true := by kernel_rfl
theorem ti37 : tinf Try.prog 37 = some (1, 8, some .nilFunc) := by kernel_rfl
theorem ag37 : aggT Try.prog 37 = some false := by kernel_rfl
theorem ti38 : tinf Try.prog 38 = some (1, 8, some .nilFunc) := by kernel_rfl
theorem ag38 : aggT Try.prog 38 = some false := by kernel_rfl
theorem ti39 : tinf Try.prog 39 = some (1, 8, some .nilFunc) := by kernel_rfl
theorem ag39 : aggT Try.prog 39 = some false := by kernel_rfl
theorem ti40 : tinf Try.prog 40 = some (1, 8, some .nilFunc) := by kernel_rfl
theorem ag40 : aggT Try.prog 40 = some false := by kernel_rfl
theorem ti41 : tinf Try.prog 41 = some (1, 8, some .nilFunc) := by kernel_rfl
theorem ag41 : aggT Try.prog 41 = some false := by kernel_rfl
theorem ti42 : tinf Try.prog 42 = some (1, 8, some .nilFunc) := by kernel_rfl
theorem ag42 : aggT Try.prog 42 = some false := by kernel_rfl
theorem ti43 : tinf Try.prog 43 = some (1, 24, some (.slice none 0 0)) := by kernel_rfl
theorem ag43 : aggT Try.prog 43 = some false := by kernel_rfl
theorem ti44 : tinf Try.prog 44 = some (1, 8, some .nilFunc) := by kernel_rfl
theorem ag44 : aggT Try.prog 44 = some false := by kernel_rfl
theorem ti45 : tinf Try.prog 45 = some (1, 24, some (.slice none 0 0)) := by kernel_rfl
theorem ag45 : aggT Try.prog 45 = some false := by kernel_rfl
theorem ti46 : tinf Try.prog 46 = some (1, 8, some .nilFunc) := by kernel_rfl
theorem ag46 : aggT Try.prog 46 = some false := by kernel_rfl
theorem ti47 : tinf Try.prog 47 = some (1, 2, some (.int .u16 0)) := by kernel_rfl
theorem ag47 : aggT Try.prog 47 = some false := by kernel_rfl
theorem ti49 : tinf Try.prog 49 = some (1, 8, some .nilFunc) := by kernel_rfl
theorem ag49 : aggT Try.prog 49 = some false := by kernel_rfl
theorem ti50 : tinf Try.prog 50 = some (1, 24, some (.slice none 0 0)) := by kernel_rfl
theorem ag50 : aggT Try.prog 50 = some false := by kernel_rfl
theorem ti51 : tinf Try.prog 51 = some (5, 56, some (.agg #[(.int .i64 0), (.int .i64 0), (.int .i64 0), (.int .i64 0), (.slice none 0 0)])) := by kernel_rfl
theorem ag51 : aggT Try.prog 51 = some true := by kernel_rfl
theorem ti52 : tinf Try.prog 52 = some (5, 56, some (.agg #[(.int .i64 0), (.int .i64 0), (.int .i64 0), (.int .i64 0), (.slice none 0 0)])) := by kernel_rfl
theorem ag52 : aggT Try.prog 52 = some true := by kernel_rfl
theorem ti53 : tinf Try.prog 53 = some (1, 8, some .nilFunc) := by kernel_rfl
theorem ag53 : aggT Try.prog 53 = some false := by kernel_rfl
theorem ti54 : tinf Try.prog 54 = some (1, 8, some .nilFunc) := by kernel_rfl
theorem ag54 : aggT Try.prog 54 = some false := by kernel_rfl
theorem ti55 : tinf Try.prog 55 = some (1, 8, some (.int .i64 0)) := by kernel_rfl
theorem ag55 : aggT Try.prog 55 = some false := by kernel_rfl
theorem ti57 : tinf Try.prog 57 = some (1, 8, some .nilFunc) := by kernel_rfl
theorem ag57 : aggT Try.prog 57 = some false := by kernel_rfl
theorem ti59 : tinf Try.prog 59 = some (1, 8, some .nilFunc) := by kernel_rfl
theorem ag59 : aggT Try.prog 59 = some false := by kernel_rfl
theorem ti60 : tinf Try.prog 60 = some (1, 8, some .nilFunc) := by kernel_rfl
theorem ag60 : aggT Try.prog 60 = some false := by kernel_rfl
theorem ti61 : tinf Try.prog 61 = some (1, 8, some .nilFunc) := by kernel_rfl
theorem ag61 : aggT Try.prog 61 = some false := by kernel_rfl
theorem ti62 : tinf Try.prog 62 = some (1, 4, some (.int .u32 0)) := by kernel_rfl
theorem ag62 : aggT Try.prog 62 = some false := by kernel_rfl
theorem ti64 : tinf Try.prog 64 = some (1, 8, some .nilFunc) := by kernel_rfl
theorem ag64 : aggT Try.prog 64 = some false := by kernel_rfl
theorem ti65 : tinf Try.prog 65 = some (1, 8, some .nilFunc) := by kernel_rfl
theorem ag65 : aggT Try.prog 65 = some false := by kernel_rfl
theorem ti66 : tinf Try.prog 66 = some (1, 8, some .nilFunc) := by kernel_rfl
theorem ag66 : aggT Try.prog 66 = some false := by kernel_rfl
theorem ti67 : tinf Try.prog 67 = some (1, 8, some .nilFunc) := by kernel_rfl
theorem ag67 : aggT Try.prog 67 = some false := by kernel_rfl
theorem ti68 : tinf Try.prog 68 = some (1, 8, some .nilFunc) := by kernel_rfl
theorem ag68 : aggT Try.prog 68 = some false := by kernel_rfl
theorem ti69 : tinf Try.prog 69 = some (1, 8, some .nilFunc) := by kernel_rfl
theorem ag69 : aggT Try.prog 69 = some false := by kernel_rfl
theorem ti70 : tinf Try.prog 70 = some (1, 8, some .nilFunc) := by kernel_rfl
theorem ag70 : aggT Try.prog 70 = some false := by kernel_rfl
theorem ti71 : tinf Try.prog 71 = some (1, 8, some .nilFunc) := by kernel_rfl
theorem ag71 : aggT Try.prog 71 = some false := by kernel_rfl
theorem ti72 : tinf Try.prog 72 = some (1, 8, some .nilFunc) := by kernel_rfl
theorem ag72 : aggT Try.prog 72 = some false := by kernel_rfl
theorem ti73 : tinf Try.prog 73 = some (1, 8, some .nilFunc) := by kernel_rfl
theorem ag73 : aggT Try.prog 73 = some false := by kernel_rfl
theorem ti74 : tinf Try.prog 74 = some (20, 20, some (.agg #[(.bool false), (.bool false), (.bool false), (.bool false), (.bool false), (.bool false), (.bool false), (.bool false), (.bool false), (.bool false), (.bool false), (.bool false), (.bool false), (.bool false), (.bool false), (.bool false), (.bool false), (.bool false), (.bool false), (.bool false)])) := by kernel_rfl
theorem ag74 : aggT Try.prog 74 = some true := by kernel_rfl
theorem ti75 : tinf Try.prog 75 = some (1, 8, some .nilFunc) := by kernel_rfl
theorem ag75 : aggT Try.prog 75 = some false := by kernel_rfl
theorem ti76 : tinf Try.prog 76 = some (2, 48, some (.agg #[(.slice none 0 0), (.slice none 0 0)])) := by kernel_rfl
theorem ag76 : aggT Try.prog 76 = some true := by kernel_rfl
theorem ti77 : tinf Try.prog 77 = some (1, 8, some .nilFunc) := by kernel_rfl
theorem ag77 : aggT Try.prog 77 = some false := by kernel_rfl
theorem ti78 : tinf Try.prog 78 = some (1, 24, some (.slice none 0 0)) := by kernel_rfl
theorem ag78 : aggT Try.prog 78 = some false := by kernel_rfl
theorem ti79 : tinf Try.prog 79 = some (1, 8, some .nilFunc) := by kernel_rfl
theorem ag79 : aggT Try.prog 79 = some false := by kernel_rfl
theorem ti80 : tinf Try.prog 80 = some (1, 8, some .nilFunc) := by kernel_rfl
theorem ag80 : aggT Try.prog 80 = some false := by kernel_rfl
theorem ti81 : tinf Try.prog 81 = some (1, 8, some .nilFunc) := by kernel_rfl
theorem ag81 : aggT Try.prog 81 = some false := by kernel_rfl
theorem ti82 : tinf Try.prog 82 = some (1, 8, some .nilFunc) := by kernel_rfl
theorem ag82 : aggT Try.prog 82 = some false := by kernel_rfl
theorem ti83 : tinf Try.prog 83 = some (1, 8, some .nilFunc) := by kernel_rfl
theorem ag83 : aggT Try.prog 83 = some false := by kernel_rfl
theorem ti84 : tinf Try.prog 84 = some (1, 24, some (.agg #[(.slice none 0 0)])) := by kernel_rfl
theorem ag84 : aggT Try.prog 84 = some true := by kernel_rfl
theorem ti85 : tinf Try.prog 85 = some (1, 24, some (.agg #[(.slice none 0 0)])) := by kernel_rfl
theorem ag85 : aggT Try.prog 85 = some true := by kernel_rfl
theorem ti86 : tinf Try.prog 86 = some (1, 8, some .nilFunc) := by kernel_rfl
theorem ag86 : aggT Try.prog 86 = some false := by kernel_rfl
theorem ti87 : tinf Try.prog 87 = some (1, 8, some .nilFunc) := by kernel_rfl
theorem ag87 : aggT Try.prog 87 = some false := by kernel_rfl
theorem ti88 : tinf Try.prog 88 = some (2, 32, some (.agg #[(.int .i64 0), (.slice none 0 0)])) := by kernel_rfl
theorem ag88 : aggT Try.prog 88 = some true := by kernel_rfl
theorem ti89 : tinf Try.prog 89 = some (2, 32, some (.agg #[(.int .i64 0), (.slice none 0 0)])) := by kernel_rfl
theorem ag89 : aggT Try.prog 89 = some true := by kernel_rfl
theorem ti90 : tinf Try.prog 90 = some (1, 8, some .nilFunc) := by kernel_rfl
theorem ag90 : aggT Try.prog 90 = some false := by kernel_rfl
theorem ti91 : tinf Try.prog 91 = some (1, 8, some .nilFunc) := by kernel_rfl
theorem ag91 : aggT Try.prog 91 = some false := by kernel_rfl
theorem ti92 : tinf Try.prog 92 = some (1, 8, some (.int .u64 0)) := by kernel_rfl
theorem ag92 : aggT Try.prog 92 = some false := by kernel_rfl
theorem ti93 : tinf Try.prog 93 = some (1, 8, some .nilFunc) := by kernel_rfl
theorem ag93 : aggT Try.prog 93 = some false := by kernel_rfl
theorem ti94 : tinf Try.prog 94 = some (1, 8, some .nilFunc) := by kernel_rfl
theorem ag94 : aggT Try.prog 94 = some false := by kernel_rfl
theorem ti95 : tinf Try.prog 95 = some (1, 24, some (.slice none 0 0)) := by kernel_rfl
theorem ag95 : aggT Try.prog 95 = some false := by kernel_rfl
theorem ti96 : tinf Try.prog 96 = some (1, 24, some (.slice none 0 0)) := by kernel_rfl
theorem ag96 : aggT Try.prog 96 = some false := by kernel_rfl
theorem ti97 : tinf Try.prog 97 = some (11, 136, some (.agg #[(.int .i64 0), (.int .i64 0), (.int .i64 0), (.int .i64 0), (.slice none 0 0), (.int .i64 0), (.int .i64 0), (.bool false), (.int .i64 0), (.slice none 0 0), (.slice none 0 0)])) := by kernel_rfl
theorem ag97 : aggT Try.prog 97 = some true := by kernel_rfl
theorem ti98 : tinf Try.prog 98 = some (11, 136, some (.agg #[(.int .i64 0), (.int .i64 0), (.int .i64 0), (.int .i64 0), (.slice none 0 0), (.int .i64 0), (.int .i64 0), (.bool false), (.int .i64 0), (.slice none 0 0), (.slice none 0 0)])) := by kernel_rfl
theorem ag98 : aggT Try.prog 98 = some true := by kernel_rfl
theorem ti99 : tinf Try.prog 99 = some (1, 8, some .nilFunc) := by kernel_rfl
theorem ag99 : aggT Try.prog 99 = some false := by kernel_rfl
theorem ti100 : tinf Try.prog 100 = some (1, 8, some .nilFunc) := by kernel_rfl
theorem ag100 : aggT Try.prog 100 = some false := by kernel_rfl
theorem ti102 : tinf Try.prog 102 = some (1, 8, some .nilFunc) := by kernel_rfl
theorem ag102 : aggT Try.prog 102 = some false := by kernel_rfl
theorem ti104 : tinf Try.prog 104 = some (1, 8, some .nilFunc) := by kernel_rfl
theorem ag104 : aggT Try.prog 104 = some false := by kernel_rfl
theorem ti106 : tinf Try.prog 106 = some (1, 8, some .nilFunc) := by kernel_rfl
theorem ag106 : aggT Try.prog 106 = some false := by kernel_rfl
theorem ti107 : tinf Try.prog 107 = some (1, 8, some .nilFunc) := by kernel_rfl
theorem ag107 : aggT Try.prog 107 = some false := by kernel_rfl
theorem ti108 : tinf Try.prog 108 = some (1, 8, some (.pointer none)) := by kernel_rfl
theorem ag108 : aggT Try.prog 108 = some false := by kernel_rfl
theorem ti109 : tinf Try.prog 109 = some (2, 32, some (.agg #[(.slice none 0 0), (.int .i64 0)])) := by kernel_rfl
theorem ag109 : aggT Try.prog 109 = some true := by kernel_rfl
theorem ti110 : tinf Try.prog 110 = some (2, 32, some (.agg #[(.slice none 0 0), (.int .i64 0)])) := by kernel_rfl
theorem ag110 : aggT Try.prog 110 = some true := by kernel_rfl
theorem ti111 : tinf Try.prog 111 = some (1, 8, some .nilFunc) := by kernel_rfl
theorem ag111 : aggT Try.prog 111 = some false := by kernel_rfl
theorem ti112 : tinf Try.prog 112 = some (1, 8, some .nilFunc) := by kernel_rfl
theorem ag112 : aggT Try.prog 112 = some false := by kernel_rfl
theorem ti113 : tinf Try.prog 113 = some (1, 8, some .nilFunc) := by kernel_rfl
theorem ag113 : aggT Try.prog 113 = some false := by kernel_rfl
theorem ti114 : tinf Try.prog 114 = some (1, 8, some .nilFunc) := by kernel_rfl
theorem ag114 : aggT Try.prog 114 = some false := by kernel_rfl
theorem ti115 : tinf Try.prog 115 = some (1, 8, some .nilFunc) := by kernel_rfl
theorem ag115 : aggT Try.prog 115 = some false := by kernel_rfl
theorem ti116 : tinf Try.prog 116 = some (1, 8, some .nilFunc) := by kernel_rfl
theorem ag116 : aggT Try.prog 116 = some false := by kernel_rfl
theorem ti117 : tinf Try.prog 117 = some (1, 8, some .nilFunc) := by kernel_rfl
theorem ag117 : aggT Try.prog 117 = some false := by kernel_rfl
theorem ti118 : tinf Try.prog 118 = some (1, 8, some .nilFunc) := by kernel_rfl
theorem ag118 : aggT Try.prog 118 = some false := by kernel_rfl
theorem ti119 : tinf Try.prog 119 = some (1, 8, some .nilFunc) := by kernel_rfl
theorem ag119 : aggT Try.prog 119 = some false := by kernel_rfl
theorem ti120 : tinf Try.prog 120 = some (1, 8, some .nilFunc) := by kernel_rfl
theorem ag120 : aggT Try.prog 120 = some false := by kernel_rfl
theorem ti121 : tinf Try.prog 121 = some (1, 8, some .nilFunc) := by kernel_rfl
theorem ag121 : aggT Try.prog 121 = some false := by kernel_rfl
theorem ti122 : tinf Try.prog 122 = some (1, 8, some .nilFunc) := by kernel_rfl
theorem ag122 : aggT Try.prog 122 = some false := by kernel_rfl
theorem ti123 : tinf Try.prog 123 = some (1, 8, some .nilFunc) := by kernel_rfl
theorem ag123 : aggT Try.prog 123 = some false := by kernel_rfl
theorem ti124 : tinf Try.prog 124 = some (1, 8, some .nilFunc) := by kernel_rfl
theorem ag124 : aggT Try.prog 124 = some false := by kernel_rfl
theorem ti125 : tinf Try.prog 125 = some (1, 8, some .nilFunc) := by kernel_rfl
theorem ag125 : aggT Try.prog 125 = some false := by kernel_rfl
theorem ti126 : tinf Try.prog 126 = some (1, 8, some .nilFunc) := by kernel_rfl
theorem ag126 : aggT Try.prog 126 = some false := by kernel_rfl
theorem ti127 : tinf Try.prog 127 = some (1, 8, some .nilFunc) := by kernel_rfl
theorem ag127 : aggT Try.prog 127 = some false := by kernel_rfl
theorem ti128 : tinf Try.prog 128 = some (1, 24, some (.slice none 0 0)) := by kernel_rfl
theorem ag128 : aggT Try.prog 128 = some false := by kernel_rfl
theorem ti129 : tinf Try.prog 129 = some (1, 8, some (.int .u64 0)) := by kernel_rfl
theorem ag129 : aggT Try.prog 129 = some false := by kernel_rfl
theorem ti130 : tinf Try.prog 130 = some (1, 8, some .nilFunc) := by kernel_rfl
theorem ag130 : aggT Try.prog 130 = some false := by kernel_rfl
theorem ti131 : tinf Try.prog 131 = some (1, 8, some (.pointer none)) := by kernel_rfl
theorem ag131 : aggT Try.prog 131 = some false := by kernel_rfl
theorem ti132 : tinf Try.prog 132 = some (1, 24, some (.slice none 0 0)) := by kernel_rfl
theorem ag132 : aggT Try.prog 132 = some false := by kernel_rfl
theorem ti133 : tinf Try.prog 133 = some (1, 24, some (.agg #[(.slice none 0 0)])) := by kernel_rfl
theorem ag133 : aggT Try.prog 133 = some true := by kernel_rfl
theorem ti134 : tinf Try.prog 134 = some (1, 24, some (.agg #[(.slice none 0 0)])) := by kernel_rfl
theorem ag134 : aggT Try.prog 134 = some true := by kernel_rfl
theorem ti136 : tinf Try.prog 136 = some (1, 8, some .nilFunc) := by kernel_rfl
theorem ag136 : aggT Try.prog 136 = some false := by kernel_rfl
theorem ti137 : tinf Try.prog 137 = some (1, 8, some .nilFunc) := by kernel_rfl
theorem ag137 : aggT Try.prog 137 = some false := by kernel_rfl
theorem ti138 : tinf Try.prog 138 = some (10, 112, some (.agg #[(.int .i64 0), (.int .i64 0), (.int .i64 0), (.int .i64 0), (.int .i64 0), (.slice none 0 0), (.int .i64 0), (.int .i64 0), (.int .i64 0), (.slice none 0 0)])) := by kernel_rfl
theorem ag138 : aggT Try.prog 138 = some true := by kernel_rfl
theorem ti139 : tinf Try.prog 139 = some (10, 112, some (.agg #[(.int .i64 0), (.int .i64 0), (.int .i64 0), (.int .i64 0), (.int .i64 0), (.slice none 0 0), (.int .i64 0), (.int .i64 0), (.int .i64 0), (.slice none 0 0)])) := by kernel_rfl
theorem ag139 : aggT Try.prog 139 = some true := by kernel_rfl
theorem ti140 : tinf Try.prog 140 = some (1, 8, some .nilFunc) := by kernel_rfl
theorem ag140 : aggT Try.prog 140 = some false := by kernel_rfl
theorem ti141 : tinf Try.prog 141 = some (5, 56, some (.agg #[(.int .i64 0), (.int .i64 0), (.int .i64 0), (.int .i64 0), (.slice none 0 0)])) := by kernel_rfl
theorem ag141 : aggT Try.prog 141 = some true := by kernel_rfl
theorem ti142 : tinf Try.prog 142 = some (5, 56, some (.agg #[(.int .i64 0), (.int .i64 0), (.int .i64 0), (.int .i64 0), (.slice none 0 0)])) := by kernel_rfl
theorem ag142 : aggT Try.prog 142 = some true := by kernel_rfl
theorem ti143 : tinf Try.prog 143 = some (1, 8, some .nilFunc) := by kernel_rfl
theorem ag143 : aggT Try.prog 143 = some false := by kernel_rfl
theorem ti145 : tinf Try.prog 145 = some (1, 8, some .nilFunc) := by kernel_rfl
theorem ag145 : aggT Try.prog 145 = some false := by kernel_rfl
theorem ti146 : tinf Try.prog 146 = some (1, 8, some .nilFunc) := by kernel_rfl
theorem ag146 : aggT Try.prog 146 = some false := by kernel_rfl
theorem ti147 : tinf Try.prog 147 = some (2, 32, some (.agg #[(.int .i64 0), (.slice none 0 0)])) := by kernel_rfl
theorem ag147 : aggT Try.prog 147 = some true := by kernel_rfl
theorem ti148 : tinf Try.prog 148 = some (2, 32, some (.agg #[(.int .i64 0), (.slice none 0 0)])) := by kernel_rfl
theorem ag148 : aggT Try.prog 148 = some true := by kernel_rfl
theorem ti149 : tinf Try.prog 149 = some (1, 8, some .nilFunc) := by kernel_rfl
theorem ag149 : aggT Try.prog 149 = some false := by kernel_rfl
theorem ti150 : tinf Try.prog 150 = some (1, 8, some .nilFunc) := by kernel_rfl
theorem ag150 : aggT Try.prog 150 = some false := by kernel_rfl
theorem ti152 : tinf Try.prog 152 = some (1, 8, some .nilFunc) := by kernel_rfl
theorem ag152 : aggT Try.prog 152 = some false := by kernel_rfl
theorem ti153 : tinf Try.prog 153 = some (1, 8, some .nilFunc) := by kernel_rfl
theorem ag153 : aggT Try.prog 153 = some false := by kernel_rfl
theorem ti154 : tinf Try.prog 154 = some (1, 8, some .nilFunc) := by kernel_rfl
theorem ag154 : aggT Try.prog 154 = some false := by kernel_rfl
theorem ti155 : tinf Try.prog 155 = some (1, 8, some .nilFunc) := by kernel_rfl
theorem ag155 : aggT Try.prog 155 = some false := by kernel_rfl
theorem ti156 : tinf Try.prog 156 = some (1, 8, some .nilFunc) := by kernel_rfl
theorem ag156 : aggT Try.prog 156 = some false := by kernel_rfl
theorem ti157 : tinf Try.prog 157 = some (1, 8, some .nilFunc) := by kernel_rfl
theorem ag157 : aggT Try.prog 157 = some false := by kernel_rfl
theorem ti158 : tinf Try.prog 158 = some (1, 8, some .nilFunc) := by kernel_rfl
theorem ag158 : aggT Try.prog 158 = some false := by kernel_rfl
theorem ti159 : tinf Try.prog 159 = some (1, 8, some .nilFunc) := by kernel_rfl
theorem ag159 : aggT Try.prog 159 = some false := by kernel_rfl
theorem ti160 : tinf Try.prog 160 = some (1, 8, some .nilFunc) := by kernel_rfl
theorem ag160 : aggT Try.prog 160 = some false := by kernel_rfl
theorem ti161 : tinf Try.prog 161 = some (1, 8, some .nilFunc) := by kernel_rfl
theorem ag161 : aggT Try.prog 161 = some false := by kernel_rfl
theorem ti162 : tinf Try.prog 162 = some (1, 8, some .nilFunc) := by kernel_rfl
theorem ag162 : aggT Try.prog 162 = some false := by kernel_rfl
theorem ti163 : tinf Try.prog 163 = some (1, 8, some .nilFunc) := by kernel_rfl
theorem ag163 : aggT Try.prog 163 = some false := by kernel_rfl
theorem ti164 : tinf Try.prog 164 = some (1, 8, some .nilFunc) := by kernel_rfl
theorem ag164 : aggT Try.prog 164 = some false := by kernel_rfl
theorem ti166 : tinf Try.prog 166 = some (1, 8, some .nilFunc) := by kernel_rfl
theorem ag166 : aggT Try.prog 166 = some false := by kernel_rfl
theorem ti168 : tinf Try.prog 168 = some (1, 8, some .nilFunc) := by kernel_rfl
theorem ag168 : aggT Try.prog 168 = some false := by kernel_rfl
theorem ti169 : tinf Try.prog 169 = some (1, 8, some (.pointer none)) := by kernel_rfl
theorem ag169 : aggT Try.prog 169 = some false := by kernel_rfl
theorem ti170 : tinf Try.prog 170 = some (1, 8, some .nilFunc) := by kernel_rfl
theorem ag170 : aggT Try.prog 170 = some false := by kernel_rfl
theorem ti171 : tinf Try.prog 171 = some (2, 32, some (.agg #[(.slice none 0 0), (.int .i64 0)])) := by kernel_rfl
theorem ag171 : aggT Try.prog 171 = some true := by kernel_rfl
theorem ti172 : tinf Try.prog 172 = some (2, 32, some (.agg #[(.slice none 0 0), (.int .i64 0)])) := by kernel_rfl
theorem ag172 : aggT Try.prog 172 = some true := by kernel_rfl
theorem ti173 : tinf Try.prog 173 = some (2, 32, some (.agg #[(.slice none 0 0), (.int .i64 0)])) := by kernel_rfl
theorem ag173 : aggT Try.prog 173 = some true := by kernel_rfl
theorem ti174 : tinf Try.prog 174 = some (2, 32, some (.agg #[(.slice none 0 0), (.int .i64 0)])) := by kernel_rfl
theorem ag174 : aggT Try.prog 174 = some true := by kernel_rfl
theorem ti175 : tinf Try.prog 175 = some (1, 8, some .nilFunc) := by kernel_rfl
theorem ag175 : aggT Try.prog 175 = some false := by kernel_rfl
theorem ti176 : tinf Try.prog 176 = some (1, 8, some .nilFunc) := by kernel_rfl
theorem ag176 : aggT Try.prog 176 = some false := by kernel_rfl
theorem ti177 : tinf Try.prog 177 = some (1, 8, some .nilFunc) := by kernel_rfl
theorem ag177 : aggT Try.prog 177 = some false := by kernel_rfl
theorem ti178 : tinf Try.prog 178 = some (1, 8, some .nilFunc) := by kernel_rfl
theorem ag178 : aggT Try.prog 178 = some false := by kernel_rfl
theorem ti179 : tinf Try.prog 179 = some (1, 8, some (.int .i64 0)) := by kernel_rfl
theorem ag179 : aggT Try.prog 179 = some false := by kernel_rfl
theorem ti181 : tinf Try.prog 181 = some (1, 8, some .nilFunc) := by kernel_rfl
theorem ag181 : aggT Try.prog 181 = some false := by kernel_rfl
theorem ti182 : tinf Try.prog 182 = some (1, 8, some .nilFunc) := by kernel_rfl
theorem ag182 : aggT Try.prog 182 = some false := by kernel_rfl
theorem ti183 : tinf Try.prog 183 = some (1, 8, some .nilFunc) := by kernel_rfl
theorem ag183 : aggT Try.prog 183 = some false := by kernel_rfl
theorem ti185 : tinf Try.prog 185 = some (1, 8, some .nilFunc) := by kernel_rfl
theorem ag185 : aggT Try.prog 185 = some false := by kernel_rfl
theorem ti186 : tinf Try.prog 186 = some (1, 8, some .nilFunc) := by kernel_rfl
theorem ag186 : aggT Try.prog 186 = some false := by kernel_rfl
theorem ti187 : tinf Try.prog 187 = some (1, 8, some .nilFunc) := by kernel_rfl
theorem ag187 : aggT Try.prog 187 = some false := by kernel_rfl
theorem ti188 : tinf Try.prog 188 = some (1, 8, some .nilFunc) := by kernel_rfl
theorem ag188 : aggT Try.prog 188 = some false := by kernel_rfl
theorem ti189 : tinf Try.prog 189 = some (1, 8, some .nilFunc) := by kernel_rfl
theorem ag189 : aggT Try.prog 189 = some false := by kernel_rfl
theorem ti190 : tinf Try.prog 190 = some (1, 8, some .nilFunc) := by kernel_rfl
theorem ag190 : aggT Try.prog 190 = some false := by kernel_rfl
theorem ti191 : tinf Try.prog 191 = some (1, 8, some .nilFunc) := by kernel_rfl
theorem ag191 : aggT Try.prog 191 = some false := by kernel_rfl
theorem ti193 : tinf Try.prog 193 = some (1, 8, some .nilFunc) := by kernel_rfl
theorem ag193 : aggT Try.prog 193 = some false := by kernel_rfl
theorem ti194 : tinf Try.prog 194 = some (1, 8, some .nilFunc) := by kernel_rfl
theorem ag194 : aggT Try.prog 194 = some false := by kernel_rfl
theorem ti195 : tinf Try.prog 195 = some (1, 8, some (.pointer none)) := by kernel_rfl
theorem ag195 : aggT Try.prog 195 = some false := by kernel_rfl
theorem ti196 : tinf Try.prog 196 = some (1, 8, some (.int .u64 0)) := by kernel_rfl
theorem ag196 : aggT Try.prog 196 = some false := by kernel_rfl
theorem ti197 : tinf Try.prog 197 = some (1, 8, some .nilFunc) := by kernel_rfl
theorem ag197 : aggT Try.prog 197 = some false := by kernel_rfl
theorem ti198 : tinf Try.prog 198 = some (1, 8, some .nilFunc) := by kernel_rfl
theorem ag198 : aggT Try.prog 198 = some false := by kernel_rfl
theorem ti199 : tinf Try.prog 199 = some (1, 8, some .nilFunc) := by kernel_rfl
theorem ag199 : aggT Try.prog 199 = some false := by kernel_rfl
theorem ti200 : tinf Try.prog 200 = some (1, 8, some (.pointer none)) := by kernel_rfl
theorem ag200 : aggT Try.prog 200 = some false := by kernel_rfl
theorem ti201 : tinf Try.prog 201 = some (1, 8, some .nilFunc) := by kernel_rfl
theorem ag201 : aggT Try.prog 201 = some false := by kernel_rfl
theorem ti202 : tinf Try.prog 202 = some (1, 8, some .nilFunc) := by kernel_rfl
theorem ag202 : aggT Try.prog 202 = some false := by kernel_rfl
theorem ti203 : tinf Try.prog 203 = some (1, 8, some .nilFunc) := by kernel_rfl
theorem ag203 : aggT Try.prog 203 = some false := by kernel_rfl
theorem ti204 : tinf Try.prog 204 = some (1, 8, some .nilFunc) := by kernel_rfl
theorem ag204 : aggT Try.prog 204 = some false := by kernel_rfl
theorem ti205 : tinf Try.prog 205 = some (1, 8, some (.pointer none)) := by kernel_rfl
theorem ag205 : aggT Try.prog 205 = some false := by kernel_rfl
theorem ti207 : tinf Try.prog 207 = some (1, 8, some .nilFunc) := by kernel_rfl
theorem ag207 : aggT Try.prog 207 = some false := by kernel_rfl
theorem ti208 : tinf Try.prog 208 = some (1, 8, some .nilFunc) := by kernel_rfl
theorem ag208 : aggT Try.prog 208 = some false := by kernel_rfl
theorem ti209 : tinf Try.prog 209 = some (1, 8, some .nilFunc) := by kernel_rfl
theorem ag209 : aggT Try.prog 209 = some false := by kernel_rfl
theorem ti210 : tinf Try.prog 210 = some (4, 40, some (.agg #[(.pointer none), (.pointer none), (.pointer none), (.string .empty)])) := by kernel_rfl
theorem ag210 : aggT Try.prog 210 = some true := by kernel_rfl
theorem ti211 : tinf Try.prog 211 = some (4, 40, some (.agg #[(.pointer none), (.pointer none), (.pointer none), (.string .empty)])) := by kernel_rfl
theorem ag211 : aggT Try.prog 211 = some true := by kernel_rfl
theorem ti212 : tinf Try.prog 212 = some (0, 0, some (.agg #[])) := by kernel_rfl
theorem ag212 : aggT Try.prog 212 = some true := by kernel_rfl
theorem ti213 : tinf Try.prog 213 = some (0, 0, some (.agg #[])) := by kernel_rfl
theorem ag213 : aggT Try.prog 213 = some true := by kernel_rfl
theorem ti214 : tinf Try.prog 214 = some (0, 0, some (.agg #[])) := by kernel_rfl
theorem ag214 : aggT Try.prog 214 = some true := by kernel_rfl
theorem ti215 : tinf Try.prog 215 = some (1, 1, some (.int .u8 0)) := by kernel_rfl
theorem ag215 : aggT Try.prog 215 = some false := by kernel_rfl
theorem ti216 : tinf Try.prog 216 = some (1, 1, some (.int .u8 0)) := by kernel_rfl
theorem ag216 : aggT Try.prog 216 = some false := by kernel_rfl
theorem ti217 : tinf Try.prog 217 = some (1, 8, some .nilFunc) := by kernel_rfl
theorem ag217 : aggT Try.prog 217 = some false := by kernel_rfl
theorem ti218 : tinf Try.prog 218 = some (1, 8, some (.pointer none)) := by kernel_rfl
theorem ag218 : aggT Try.prog 218 = some false := by kernel_rfl
theorem ti219 : tinf Try.prog 219 = some (1, 4, some (.int .i32 0)) := by kernel_rfl
theorem ag219 : aggT Try.prog 219 = some false := by kernel_rfl
theorem ti220 : tinf Try.prog 220 = some (1, 4, some (.int .i32 0)) := by kernel_rfl
theorem ag220 : aggT Try.prog 220 = some false := by kernel_rfl
theorem ti221 : tinf Try.prog 221 = some (11, 48, some (.agg #[(.int .u64 0), (.int .u64 0), (.int .u32 0), (.int .u8 0), (.int .u8 0), (.int .u8 0), (.int .u8 0), .nilFunc, (.pointer none), (.int .i32 0), (.int .i32 0)])) := by kernel_rfl
theorem ag221 : aggT Try.prog 221 = some true := by kernel_rfl
theorem ti222 : tinf Try.prog 222 = some (11, 48, some (.agg #[(.int .u64 0), (.int .u64 0), (.int .u32 0), (.int .u8 0), (.int .u8 0), (.int .u8 0), (.int .u8 0), .nilFunc, (.pointer none), (.int .i32 0), (.int .i32 0)])) := by kernel_rfl
theorem ag222 : aggT Try.prog 222 = some true := by kernel_rfl
def pl29 (i : Nat) : Option (Nat × Nat) := [(0, 1)][i]?
theorem fp29 (fs : Array Field) (h : Try.prog.underlying 29 = some (.struct fs)) : ∀ i, fplace Try.prog fs i = pl29 i := by
  rw [Try.underlying29] at h
  cases h
  intro i
  match i with
  | 0 => simp [fplace, pl29, ti27]
  | n + 1 => simp [fplace, pl29]
theorem fa29 (fs : Array Field) (h : Try.prog.underlying 29 = some (.struct fs)) : fs.all (fun f => (tinf Try.prog f.type).isSome) = true := by
  rw [Try.underlying29] at h
  cases h
  simp [ti27]
def pl35 (i : Nat) : Option (Nat × Nat) := [(0, 1), (1, 1), (2, 1)][i]?
theorem fp35 (fs : Array Field) (h : Try.prog.underlying 35 = some (.struct fs)) : ∀ i, fplace Try.prog fs i = pl35 i := by
  rw [Try.underlying35] at h
  cases h
  intro i
  match i with
  | 0 => simp [fplace, pl35, ti3]
  | 1 => simp [fplace, pl35, ti3]
  | 2 => simp [fplace, pl35, ti33]
  | n + 3 => simp [fplace, pl35]
theorem fa35 (fs : Array Field) (h : Try.prog.underlying 35 = some (.struct fs)) : fs.all (fun f => (tinf Try.prog f.type).isSome) = true := by
  rw [Try.underlying35] at h
  cases h
  simp [ti3, ti33]
def pl85 (i : Nat) : Option (Nat × Nat) := [(0, 1)][i]?
theorem fp85 (fs : Array Field) (h : Try.prog.underlying 85 = some (.struct fs)) : ∀ i, fplace Try.prog fs i = pl85 i := by
  rw [Try.underlying85] at h
  cases h
  intro i
  match i with
  | 0 => simp [fplace, pl85, ti27]
  | n + 1 => simp [fplace, pl85]
theorem fa85 (fs : Array Field) (h : Try.prog.underlying 85 = some (.struct fs)) : fs.all (fun f => (tinf Try.prog f.type).isSome) = true := by
  rw [Try.underlying85] at h
  cases h
  simp [ti27]
theorem cl3 : callable Try.prog 3 = true := by kernel_rfl
theorem cl4 : callable Try.prog 4 = true := by kernel_rfl
theorem cl5 : callable Try.prog 5 = true := by kernel_rfl
theorem cl15 : callable Try.prog 15 = true := by kernel_rfl
theorem cl16 : callable Try.prog 16 = true := by kernel_rfl
theorem cl17 : callable Try.prog 17 = true := by kernel_rfl
theorem cl18 : callable Try.prog 18 = true := by kernel_rfl
theorem cl19 : callable Try.prog 19 = true := by kernel_rfl
theorem cl20 : callable Try.prog 20 = true := by kernel_rfl
theorem cl21 : callable Try.prog 21 = true := by kernel_rfl
theorem cl22 : callable Try.prog 22 = true := by kernel_rfl
theorem cl23 : callable Try.prog 23 = true := by kernel_rfl
theorem cl24 : callable Try.prog 24 = true := by kernel_rfl
theorem cl25 : callable Try.prog 25 = true := by kernel_rfl
theorem cl56 : callable Try.prog 56 = true := by kernel_rfl
theorem cl57 : callable Try.prog 57 = true := by kernel_rfl
theorem cl58 : callable Try.prog 58 = true := by kernel_rfl
theorem cl92 : callable Try.prog 92 = true := by kernel_rfl
theorem mixed : Try.prog.follows .mixedOrders = true := by kernel_rfl

end Go.Proofs.Ytombabaadbobpaa.Am
