/- Functions, read as partial functions over lists. -/
import Derived.Test.YtofcgmbdglpaoaaD1
namespace Go.Proofs.Ytofcgmbdglpaoaa.Am
open Go
set_option linter.unusedVariables false
set_option maxRecDepth 10000



def slices_Clone_Lint_int (vs : (List Int)) : Option (List Int) :=
  ((app 8 ([] : (List Int)) vs).bind fun m => (some m))

def slices_IndexFunc_Lint_int_L1 (vs : (List Int)) (f : (Int → Option Bool)) : Int → Option (Ctl (Ctl Int Unit) Int)
  | t85 => (if (decide (t85 < (vs.length : Int))) then ((idx vs t85).bind fun x => ((f x).bind fun y => (if y then (early (early (some t85))) else (some (.go (IntKind.wrap .i64 (t85 + 1))))))) else (early (some (.go ()))))

def slices_IndexFunc_Lint_int (vs : (List Int)) (f : (Int → Option Bool)) : Option Int :=
  (kont (loopN (slices_IndexFunc_Lint_int_L1 vs f) fuel 0) fun () => (some (-1)))

def slices_IndexFunc_Lint_int_own0_L1 (vs : (List Int)) (f : (Int → Option Bool)) : Int → Option (Ctl (Ctl Int Unit) Int)
  | t810 => (if (decide (t810 < (vs.length : Int))) then ((idx vs t810).bind fun x => ((f x).bind fun y => (if y then (early (early (some t810))) else (some (.go (IntKind.wrap .i64 (t810 + 1))))))) else (early (some (.go ()))))

def slices_IndexFunc_Lint_int_own0 (vs : (List Int)) (f : (Int → Option Bool)) : Option Int :=
  (kont (loopN (slices_IndexFunc_Lint_int_own0_L1 vs f) fuel 0) fun () => (some (-1)))

def slices_DeleteFunc_Lint_int_L1 (vs : (List Int)) (del : (Int → Option Bool)) : (Int × Int × (List Int)) → Option (Ctl (Int × (List Int)) (Int × Int × (List Int)))
  | (i11, j12, mpvs13) => (if (decide (j12 < (vs.length : Int))) then (((idx mpvs13 j12).bind fun x => ((del x).bind fun y29 => (if (!y29) then ((idx mpvs13 i11).bind fun x31 => ((updL mpvs13 i11 x).bind fun m => (some ((IntKind.wrap .i64 (i11 + 1)), m)))) else (some (i11, mpvs13))))).bind fun (i21, mpvs22) => (some (.go (i21, (IntKind.wrap .i64 (j12 + 1)), mpvs22)))) else (early (some (i11, mpvs13))))

def slices_DeleteFunc_Lint_int (vs : (List Int)) (del : (Int → Option Bool)) : Option (List Int) :=
  ((slices_IndexFunc_Lint_int_own0 vs del).bind fun y => (if (y == (-1)) then (some vs) else ((loopN (slices_DeleteFunc_Lint_int_L1 vs del) fuel (y, (IntKind.wrap .i64 (y + 1)), vs)).bind fun (i, mpvs) => ((slcH vs.length i ((vs.length : Nat) : Int)).bind fun (o, k36) => ((slcH vs.length 0 i).bind fun (o42, k43) => (some ((fillL mpvs o k36 0).take k43)))))))

def conf_may (n : Int) : Option Bool :=
  ((if (decide (n ≥ 0)) then (some (decide (n < 7))) else (some false)).bind fun t2 => (some t2))

def conf_Of_1 (n : Int) : Option Bool :=
  ((conf_may n).bind fun y => (some (!y)))

def math_bits_Len32 (x : Int) : Option Int :=
  ((if (decide (x ≥ 65536)) then (some ((shrI x 16), 16)) else (some (x, 0))).bind fun (x1, n) => ((if (decide (x1 ≥ 256)) then (some ((shrI x1 8), (IntKind.wrap .i64 (n + 8)))) else (some (x1, n))).bind fun (x2, n3) => ((idx ((([0, 1, 2, 2, 3, 3, 3, 3, 4, 4, 4, 4, 4, 4, 4, 4, 5, 5, 5, 5, 5, 5, 5, 5, 5, 5, 5, 5, 5, 5, 5, 5, 6, 6, 6, 6, 6, 6, 6, 6, 6, 6, 6, 6, 6, 6, 6, 6, 6, 6, 6, 6, 6, 6, 6, 6, 6, 6, 6, 6, 6, 6, 6, 6] ++ [7, 7, 7, 7, 7, 7, 7, 7, 7, 7, 7, 7, 7, 7, 7, 7, 7, 7, 7, 7, 7, 7, 7, 7, 7, 7, 7, 7, 7, 7, 7, 7, 7, 7, 7, 7, 7, 7, 7, 7, 7, 7, 7, 7, 7, 7, 7, 7, 7, 7, 7, 7, 7, 7, 7, 7, 7, 7, 7, 7, 7, 7, 7, 7]) ++ ([8, 8, 8, 8, 8, 8, 8, 8, 8, 8, 8, 8, 8, 8, 8, 8, 8, 8, 8, 8, 8, 8, 8, 8, 8, 8, 8, 8, 8, 8, 8, 8, 8, 8, 8, 8, 8, 8, 8, 8, 8, 8, 8, 8, 8, 8, 8, 8, 8, 8, 8, 8, 8, 8, 8, 8, 8, 8, 8, 8, 8, 8, 8, 8] ++ [8, 8, 8, 8, 8, 8, 8, 8, 8, 8, 8, 8, 8, 8, 8, 8, 8, 8, 8, 8, 8, 8, 8, 8, 8, 8, 8, 8, 8, 8, 8, 8, 8, 8, 8, 8, 8, 8, 8, 8, 8, 8, 8, 8, 8, 8, 8, 8, 8, 8, 8, 8, 8, 8, 8, 8, 8, 8, 8, 8, 8, 8, 8, 8])) : List UInt8) (IntKind.wrap .u8 x2)).bind fun x9 => (some (IntKind.wrap .i64 (n3 + (IntKind.wrap .i64 (ofU8 x9))))))))

def math_bits_Len64 (x : Int) : Option Int :=
  ((if (decide (x ≥ 4294967296)) then (some ((shrI x 32), 32)) else (some (x, 0))).bind fun (x1, n) => ((if (decide (x1 ≥ 65536)) then (some ((shrI x1 16), (IntKind.wrap .i64 (n + 16)))) else (some (x1, n))).bind fun (x2, n3) => ((if (decide (x2 ≥ 256)) then (some ((shrI x2 8), (IntKind.wrap .i64 (n3 + 8)))) else (some (x2, n3))).bind fun (x9, n10) => ((idx ((([0, 1, 2, 2, 3, 3, 3, 3, 4, 4, 4, 4, 4, 4, 4, 4, 5, 5, 5, 5, 5, 5, 5, 5, 5, 5, 5, 5, 5, 5, 5, 5, 6, 6, 6, 6, 6, 6, 6, 6, 6, 6, 6, 6, 6, 6, 6, 6, 6, 6, 6, 6, 6, 6, 6, 6, 6, 6, 6, 6, 6, 6, 6, 6] ++ [7, 7, 7, 7, 7, 7, 7, 7, 7, 7, 7, 7, 7, 7, 7, 7, 7, 7, 7, 7, 7, 7, 7, 7, 7, 7, 7, 7, 7, 7, 7, 7, 7, 7, 7, 7, 7, 7, 7, 7, 7, 7, 7, 7, 7, 7, 7, 7, 7, 7, 7, 7, 7, 7, 7, 7, 7, 7, 7, 7, 7, 7, 7, 7]) ++ ([8, 8, 8, 8, 8, 8, 8, 8, 8, 8, 8, 8, 8, 8, 8, 8, 8, 8, 8, 8, 8, 8, 8, 8, 8, 8, 8, 8, 8, 8, 8, 8, 8, 8, 8, 8, 8, 8, 8, 8, 8, 8, 8, 8, 8, 8, 8, 8, 8, 8, 8, 8, 8, 8, 8, 8, 8, 8, 8, 8, 8, 8, 8, 8] ++ [8, 8, 8, 8, 8, 8, 8, 8, 8, 8, 8, 8, 8, 8, 8, 8, 8, 8, 8, 8, 8, 8, 8, 8, 8, 8, 8, 8, 8, 8, 8, 8, 8, 8, 8, 8, 8, 8, 8, 8, 8, 8, 8, 8, 8, 8, 8, 8, 8, 8, 8, 8, 8, 8, 8, 8, 8, 8, 8, 8, 8, 8, 8, 8])) : List UInt8) (IntKind.wrap .u8 x9)).bind fun x16 => (some (IntKind.wrap .i64 (n10 + (IntKind.wrap .i64 (ofU8 x16)))))))))

def math_bits_Len (x : Int) : Option Int :=
  ((math_bits_Len64 x).bind fun y => (some y))

def cmp_isNaN_int (x : Int) : Option Bool :=
  (some (x != x))

def cmp_Less_int (x : Int) (y : Int) : Option Bool :=
  (((cmp_isNaN_int x).bind fun y1 => (if y1 then ((cmp_isNaN_int y).bind fun y2 => (if (!y2) then (some true) else (some (decide (x < y))))) else (some (decide (x < y))))).bind fun t4 => (some t4))

def slices_insertionSortOrdered_int_L2 (a : Int) : (Int × (List Int)) → Option (Ctl (List Int) (Int × (List Int)))
  | (j32, mpdata33) => ((if (decide (j32 > a)) then ((idx mpdata33 j32).bind fun x => ((idx mpdata33 (IntKind.wrap .i64 (j32 - 1))).bind fun x45 => ((cmp_Less_int x x45).bind fun y => (some y)))) else (some false)).bind fun t30 => (if t30 then ((idx mpdata33 (IntKind.wrap .i64 (j32 - 1))).bind fun x47 => ((idx mpdata33 j32).bind fun x48 => ((updL mpdata33 j32 x47).bind fun m => ((idx m (IntKind.wrap .i64 (j32 - 1))).bind fun x53 => ((updL m (IntKind.wrap .i64 (j32 - 1)) x48).bind fun m54 => (some (.go ((IntKind.wrap .i64 (j32 - 1)), m54)))))))) else (early (some mpdata33))))

def slices_insertionSortOrdered_int_L1 (a : Int) (b : Int) : (Int × (List Int)) → Option (Ctl (List Int) (Int × (List Int)))
  | (i10, mpdata11) => (if (decide (i10 < b)) then ((loopN (slices_insertionSortOrdered_int_L2 a) fuel (i10, mpdata11)).bind fun mpdata17 => (some (.go ((IntKind.wrap .i64 (i10 + 1)), mpdata17)))) else (early (some mpdata11)))

def slices_insertionSortOrdered_int (data : (List Int)) (a : Int) (b : Int) : Option (List Int) :=
  ((loopN (slices_insertionSortOrdered_int_L1 a b) fuel ((IntKind.wrap .i64 (a + 1)), data)).bind fun mpdata => (some mpdata))

def slices_xorshift_Next (vr : Int) : Option (Int × Int) :=
  (some ((Go.bits .xor .u64 (Go.bits .xor .u64 (Go.bits .xor .u64 vr (shlI .u64 vr 13)) (shrI (Go.bits .xor .u64 vr (shlI .u64 vr 13)) 7)) (shlI .u64 (Go.bits .xor .u64 (Go.bits .xor .u64 vr (shlI .u64 vr 13)) (shrI (Go.bits .xor .u64 vr (shlI .u64 vr 13)) 7)) 17)), (Go.bits .xor .u64 (Go.bits .xor .u64 (Go.bits .xor .u64 vr (shlI .u64 vr 13)) (shrI (Go.bits .xor .u64 vr (shlI .u64 vr 13)) 7)) (shlI .u64 (Go.bits .xor .u64 (Go.bits .xor .u64 vr (shlI .u64 vr 13)) (shrI (Go.bits .xor .u64 vr (shlI .u64 vr 13)) 7)) 17))))

def slices_pdqsortOrdered_int_L1 (a0 : (List Int)) (a1 : Int) (a2 : Int) (a3 : Int) : Unit → Option (Ctl (List Int) Unit)
  | () => (if (decide ((IntKind.wrap .i64 (a2 - a1)) ≤ 12)) then ((slices_insertionSortOrdered_int a0 a1 a2).bind fun y => ((chkl a0.length y).bind fun () => (early (some y)))) else (if (a3 == 0) then none else none))

def slices_pdqsortOrdered_int (a0 : (List Int)) (a1 : Int) (a2 : Int) (a3 : Int) : Option (List Int) :=
  loopN (slices_pdqsortOrdered_int_L1 a0 a1 a2 a3) fuel ()

def slices_Sort_Lint_int (x : (List Int)) : Option (List Int) :=
  ((math_bits_Len (IntKind.wrap .u64 (x.length : Int))).bind fun y => ((slices_pdqsortOrdered_int x 0 (x.length : Int) y).bind fun y1 => ((chkl x.length y1).bind fun () => (some y1))))

def slices_Compact_Lint_int_L2 (o : Nat) (k20 : Nat) : (Int × Int × (List Int)) → Option (Ctl (Int × (List Int)) (Int × Int × (List Int)))
  | (k38, k239, mpvs40) => (if (decide (k239 < (k20 : Int))) then (((idxP mpvs40 o k20 k239).bind fun x56 => ((idxP mpvs40 o k20 (IntKind.wrap .i64 (k239 - 1))).bind fun x57 => (if (x56 != x57) then ((idx mpvs40 k38).bind fun x61 => ((updL mpvs40 k38 x56).bind fun m => (some ((IntKind.wrap .i64 (k38 + 1)), m)))) else (some (k38, mpvs40))))).bind fun (k48, mpvs49) => (some (.go (k48, (IntKind.wrap .i64 (k239 + 1)), mpvs49)))) else (early (some (k38, mpvs40))))

def slices_Compact_Lint_int_L1 (vs : (List Int)) : Int → Option (Ctl (Ctl (List Int) Unit) Int)
  | k10 => (if (decide (k10 < (vs.length : Int))) then ((idx vs k10).bind fun x => ((idx vs (IntKind.wrap .i64 (k10 - 1))).bind fun x18 => (if (x == x18) then ((slcH vs.length k10 ((vs.length : Nat) : Int)).bind fun (o, k20) => ((loopN (slices_Compact_Lint_int_L2 o k20) fuel (k10, 1, vs)).bind fun (k21, mpvs) => ((slcH vs.length k21 ((vs.length : Nat) : Int)).bind fun (o66, k67) => ((slcH vs.length 0 k21).bind fun (o73, k74) => (early (early (some ((fillL mpvs o66 k67 0).take k74)))))))) else (some (.go (IntKind.wrap .i64 (k10 + 1))))))) else (early (some (.go ()))))

def slices_Compact_Lint_int (vs : (List Int)) : Option (List Int) :=
  (if (decide ((vs.length : Int) < 2)) then (some vs) else (kont (loopN (slices_Compact_Lint_int_L1 vs) fuel 1) fun () => (some vs)))

def conf_Of (l : (List Int)) : Option (List Int) :=
  ((slices_Clone_Lint_int l).bind fun y => ((slices_DeleteFunc_Lint_int y (fun z0 => conf_Of_1 z0)).bind fun y1 => ((slices_Sort_Lint_int y1).bind fun y7 => ((chkl y1.length y7).bind fun () => ((slices_Compact_Lint_int y7).bind fun y13 => (some y13))))))

def slices_Equal_Lint_int_L1 (s1 : (List Int)) (s2 : (List Int)) : Int → Option (Ctl (Ctl Bool Unit) Int)
  | t135 => (if (decide (t135 < (s1.length : Int))) then ((idx s1 t135).bind fun x => ((idx s2 t135).bind fun x11 => (if (x != x11) then (early (early (some false))) else (some (.go (IntKind.wrap .i64 (t135 + 1))))))) else (early (some (.go ()))))

def slices_Equal_Lint_int (s1 : (List Int)) (s2 : (List Int)) : Option Bool :=
  (if ((s1.length : Int) != (s2.length : Int)) then (some false) else (kont (loopN (slices_Equal_Lint_int_L1 s1 s2) fuel 0) fun () => (some true)))

def conf_Right (l : (List Int)) : Option Bool :=
  ((if (decide ((l.length : Int) > 0)) then ((conf_Of l).bind fun y => ((slices_Equal_Lint_int l y).bind fun y1 => (some y1))) else (some false)).bind fun t2 => (some t2))

def slices_Index_Lint_int_L1 (vs : (List Int)) (v : Int) : Int → Option (Ctl (Ctl Int Unit) Int)
  | t85 => (if (decide (t85 < (vs.length : Int))) then ((idx vs t85).bind fun x => (if (v == x) then (early (early (some t85))) else (some (.go (IntKind.wrap .i64 (t85 + 1)))))) else (early (some (.go ()))))

def slices_Index_Lint_int (vs : (List Int)) (v : Int) : Option Int :=
  (kont (loopN (slices_Index_Lint_int_L1 vs v) fuel 0) fun () => (some (-1)))

def slices_Contains_Lint_int (vs : (List Int)) (v : Int) : Option Bool :=
  ((slices_Index_Lint_int vs v).bind fun y => (some (decide (y ≥ 0))))

def conf_Has (l : (List Int)) (n : Int) : Option Bool :=
  ((slices_Contains_Lint_int l n).bind fun y => (some y))

def conf_Most_L1 (yes : (List Int)) (y : (List Int)) : (Int × Int) → Option (Ctl Int (Int × Int))
  | (n6, t137) => (if (decide (t137 < (y.length : Int))) then (((idx y t137).bind fun x => ((conf_Has yes x).bind fun y15 => (if y15 then (some (IntKind.wrap .i64 (n6 + 1))) else (some n6)))).bind fun n11 => (some (.go (n11, (IntKind.wrap .i64 (t137 + 1)))))) else (early (some n6)))

def conf_Most (l : (List Int)) (yes : (List Int)) : Option Bool :=
  ((conf_Of l).bind fun y => ((loopN (conf_Most_L1 yes y) fuel (0, 0)).bind fun n => (some (decide ((IntKind.wrap .i64 (2 * n)) > (y.length : Int))))))

def conf_With (l : (List Int)) (n : Int) : Option (List Int) :=
  ((slices_Clone_Lint_int l).bind fun y => ((app 8 y ([n] : (List Int))).bind fun m => ((conf_Of m).bind fun y6 => (some y6))))

def conf_Without_1 (x : Int) (a1 : Int) : Option Bool :=
  (some (x == a1))

def conf_Without (l : (List Int)) (n : Int) : Option (List Int) :=
  ((conf_Of l).bind fun y => ((slices_DeleteFunc_Lint_int y (fun z0 => conf_Without_1 z0 n)).bind fun y7 => (some y7)))

def mementolaw6_known : Option Bool :=
  ((conf_Of ([2, 0, 9, 2, 1] : (List Int))).bind fun y => ((if ((y.length : Int) == 3) then ((idx y 0).bind fun x => (if (x == 0) then ((idx y 2).bind fun x2 => (if (x2 == 2) then ((conf_Right y).bind fun y4 => (if y4 then ((conf_Right ([] : (List Int))).bind fun y7 => (if (!y7) then ((conf_Most y ([0, 2] : (List Int))).bind fun y10 => (if y10 then ((conf_Most y ([1] : (List Int))).bind fun y13 => (if (!y13) then ((conf_Most ([] : (List Int)) ([] : (List Int))).bind fun y16 => (if (!y16) then ((conf_With y 5).bind fun y19 => (if ((y19.length : Int) == 4) then ((conf_Without y 0).bind fun y22 => (if ((y22.length : Int) == 2) then ((conf_Has y 1).bind fun y25 => (some y25)) else (some false))) else (some false))) else (some false))) else (some false))) else (some false))) else (some false))) else (some false))) else (some false))) else (some false))) else (some false)).bind fun t0 => (some t0)))

def mementolaw6_ints_L1 (l : (List Int)) : ((List Int) × Int) → Option (Ctl (List Int) ((List Int) × Int))
  | (out9, i11) => (if (decide (i11 < (l.length : Int))) then ((idx l i11).bind fun x => ((app 8 out9 ([(IntKind.wrap .i64 (Int.tmod x 7))] : (List Int))).bind fun m => (some (.go (m, (IntKind.wrap .i64 (i11 + 1))))))) else (early (some out9)))

def mementolaw6_ints (l : (List Int)) : Option (List Int) :=
  ((loopN (mementolaw6_ints_L1 l) fuel (([] : (List Int)), 0)).bind fun out => (some out))

def mementoref6_SameInts_L1 (a : (List Int)) (b : (List Int)) : Int → Option (Ctl (Ctl Bool Unit) Int)
  | i5 => (if (decide (i5 < (a.length : Int))) then ((idx a i5).bind fun x => ((idx b i5).bind fun x11 => (if (x != x11) then (early (early (some false))) else (some (.go (IntKind.wrap .i64 (i5 + 1))))))) else (early (some (.go ()))))

def mementoref6_SameInts (a : (List Int)) (b : (List Int)) : Option Bool :=
  (if ((a.length : Int) != (b.length : Int)) then (some false) else (kont (loopN (mementoref6_SameInts_L1 a b) fuel 0) fun () => (some true)))

def mementohelp_Ints (a : (List Int)) (b : (List Int)) : Option Bool :=
  ((mementoref6_SameInts a b).bind fun y => (some y))

def mementolaw6_ConfSteps (a0 : (List Int)) (a1 : Int) : Option Bool :=
  ((mementolaw6_known).bind fun y => (if (!y) then (some false) else (if (decide ((a0.length : Int) > 10)) then (some true) else ((mementolaw6_ints a0).bind fun y2 => ((conf_Of y2).bind fun y4 => ((conf_With y4 (IntKind.wrap .i64 (Int.tmod a1 7))).bind fun y6 => ((conf_Without y4 (IntKind.wrap .i64 (Int.tmod a1 7))).bind fun y8 => (((conf_Has y6 (IntKind.wrap .i64 (Int.tmod a1 7))).bind fun y10 => (if (!y10) then (some true) else ((conf_Has y8 (IntKind.wrap .i64 (Int.tmod a1 7))).bind fun y12 => (if y12 then (some true) else (some ((IntKind.wrap .i64 ((y6.length : Int) - (y8.length : Int))) != 1)))))).bind fun t42 => (if t42 then (some false) else ((conf_Has y4 (IntKind.wrap .i64 (Int.tmod a1 7))).bind fun y16 => (if y16 then (((mementohelp_Ints y6 y4).bind fun y22 => (if y22 then ((conf_With y8 (IntKind.wrap .i64 (Int.tmod a1 7))).bind fun y25 => ((mementohelp_Ints y25 y4).bind fun y27 => (some y27))) else (some false))).bind fun t4 => (some t4)) else (((mementohelp_Ints y8 y4).bind fun y33 => (if y33 then ((conf_Without y6 (IntKind.wrap .i64 (Int.tmod a1 7))).bind fun y36 => ((mementohelp_Ints y36 y4).bind fun y38 => (if y38 then ((conf_Right y6).bind fun y41 => (some y41)) else (some false)))) else (some false))).bind fun t429 => (some t429)))))))))))))

def mementolaw6_ConfCounts_L1 (n : Int) : ((List Int) × Int) → Option (Ctl (List Int) ((List Int) × Int))
  | (l10, i12) => ((if (decide (i12 < (IntKind.wrap .i64 (Int.tmod n 8)))) then (some (decide (i12 < 7))) else (some false)).bind fun t19 => (if t19 then ((app 8 l10 ([i12] : (List Int))).bind fun m => (some (.go (m, (IntKind.wrap .i64 (i12 + 1)))))) else (early (some l10))))

def mementolaw6_ConfCounts_L2 (k : Int) : ((List Int) × Int) → Option (Ctl (List Int) ((List Int) × Int))
  | (yes49, i51) => (if (decide (i51 < (IntKind.wrap .i64 (Int.tmod k 9)))) then ((app 8 yes49 ([i51] : (List Int))).bind fun m62 => (some (.go (m62, (IntKind.wrap .i64 (i51 + 1)))))) else (early (some yes49)))

def mementolaw6_ConfCounts (n : Int) (k : Int) : Option Bool :=
  ((mementolaw6_known).bind fun y => (if (!y) then (some false) else ((loopN (mementolaw6_ConfCounts_L1 n) fuel (([] : (List Int)), 0)).bind fun l => ((loopN (mementolaw6_ConfCounts_L2 k) fuel (([] : (List Int)), 0)).bind fun yes => (((conf_Most l yes).bind fun y73 => (if (y73 == (decide ((IntKind.wrap .i64 (2 * (minI (l.length : Int) (yes.length : Int)))) > (l.length : Int)))) then ((conf_Right l).bind fun y76 => (if (y76 == (decide ((l.length : Int) > 0))) then ((conf_Most l ([9, (-1)] : (List Int))).bind fun y79 => (some (!y79))) else (some false))) else (some false))).bind fun t4 => (some t4))))))

def mementolaw6_ConfMeets_L1 (y5 : (List Int)) (y7 : (List Int)) : (Bool × Int) → Option (Ctl Bool (Bool × Int))
  | (t1525, t1626) => (if (decide (t1626 < (y5.length : Int))) then ((if t1525 then (some true) else ((idx y5 t1626).bind fun x => ((conf_Has y7 x).bind fun y36 => (some y36)))).bind fun t1531 => (some (.go (t1531, (IntKind.wrap .i64 (t1626 + 1)))))) else (early (some t1525)))

def mementolaw6_ConfMeets (a0 : (List Int)) (a1 : (List Int)) (a2 : (List Int)) (a3 : Int) (a4 : Bool) : Option Bool :=
  ((mementolaw6_known).bind fun y => (if (!y) then (some false) else ((if (decide ((a0.length : Int) > 10)) then (some true) else (if (decide ((a1.length : Int) > 10)) then (some true) else (some (decide ((a2.length : Int) > 10))))).bind fun t31 => (if t31 then (some true) else ((mementolaw6_ints a0).bind fun y3 => ((mementolaw6_ints a1).bind fun y5 => ((mementolaw6_ints a2).bind fun y7 => ((conf_With y3 (IntKind.wrap .i64 (Int.tmod a3 7))).bind fun y9 => ((if (!a4) then ((conf_Without y3 (IntKind.wrap .i64 (Int.tmod a3 7))).bind fun y15 => (some y15)) else (some y9)).bind fun t14 => ((loopN (mementolaw6_ConfMeets_L1 y5 y7) fuel (false, 0)).bind fun t15 => (((conf_Most y3 y5).bind fun y41 => (if y41 then ((conf_Most y3 y7).bind fun y44 => (if y44 then (if (!(!t15)) then (if y41 then ((conf_Most t14 y7).bind fun y49 => (if y49 then (some (!(!t15))) else (some true))) else (some true)) else (some false)) else (if y41 then ((conf_Most t14 y7).bind fun y53 => (if y53 then (some (!(!t15))) else (some true))) else (some true)))) else (if y41 then ((conf_Most t14 y7).bind fun y57 => (if y57 then (some (!(!t15))) else (some true))) else (some true)))).bind fun t10 => (some t10))))))))))))

end Go.Proofs.Ytofcgmbdglpaoaa.Am
