/- Functions, read as partial functions over lists. -/
import Derived.Test.YteoalgkckhijlaaD1
namespace Go.Proofs.Yteoalgkckhijlaa.Am
open Go
set_option linter.unusedVariables false
set_option maxRecDepth 10000



def math_bits_Len32 (x : Int) : Option Int :=
  ((if (decide (x ≥ 65536)) then (some ((shrI x 16), 16)) else (some (x, 0))).bind fun (x1, n) => ((if (decide (x1 ≥ 256)) then (some ((shrI x1 8), (IntKind.wrap .i64 (n + 8)))) else (some (x1, n))).bind fun (x2, n3) => ((idx ((([0, 1, 2, 2, 3, 3, 3, 3, 4, 4, 4, 4, 4, 4, 4, 4, 5, 5, 5, 5, 5, 5, 5, 5, 5, 5, 5, 5, 5, 5, 5, 5, 6, 6, 6, 6, 6, 6, 6, 6, 6, 6, 6, 6, 6, 6, 6, 6, 6, 6, 6, 6, 6, 6, 6, 6, 6, 6, 6, 6, 6, 6, 6, 6] ++ [7, 7, 7, 7, 7, 7, 7, 7, 7, 7, 7, 7, 7, 7, 7, 7, 7, 7, 7, 7, 7, 7, 7, 7, 7, 7, 7, 7, 7, 7, 7, 7, 7, 7, 7, 7, 7, 7, 7, 7, 7, 7, 7, 7, 7, 7, 7, 7, 7, 7, 7, 7, 7, 7, 7, 7, 7, 7, 7, 7, 7, 7, 7, 7]) ++ ([8, 8, 8, 8, 8, 8, 8, 8, 8, 8, 8, 8, 8, 8, 8, 8, 8, 8, 8, 8, 8, 8, 8, 8, 8, 8, 8, 8, 8, 8, 8, 8, 8, 8, 8, 8, 8, 8, 8, 8, 8, 8, 8, 8, 8, 8, 8, 8, 8, 8, 8, 8, 8, 8, 8, 8, 8, 8, 8, 8, 8, 8, 8, 8] ++ [8, 8, 8, 8, 8, 8, 8, 8, 8, 8, 8, 8, 8, 8, 8, 8, 8, 8, 8, 8, 8, 8, 8, 8, 8, 8, 8, 8, 8, 8, 8, 8, 8, 8, 8, 8, 8, 8, 8, 8, 8, 8, 8, 8, 8, 8, 8, 8, 8, 8, 8, 8, 8, 8, 8, 8, 8, 8, 8, 8, 8, 8, 8, 8])) : List UInt8) (IntKind.wrap .u8 x2)).bind fun x9 => (some (IntKind.wrap .i64 (n3 + (IntKind.wrap .i64 (ofU8 x9))))))))

def math_bits_Len64 (x : Int) : Option Int :=
  ((if (decide (x ≥ 4294967296)) then (some ((shrI x 32), 32)) else (some (x, 0))).bind fun (x1, n) => ((if (decide (x1 ≥ 65536)) then (some ((shrI x1 16), (IntKind.wrap .i64 (n + 16)))) else (some (x1, n))).bind fun (x2, n3) => ((if (decide (x2 ≥ 256)) then (some ((shrI x2 8), (IntKind.wrap .i64 (n3 + 8)))) else (some (x2, n3))).bind fun (x9, n10) => ((idx ((([0, 1, 2, 2, 3, 3, 3, 3, 4, 4, 4, 4, 4, 4, 4, 4, 5, 5, 5, 5, 5, 5, 5, 5, 5, 5, 5, 5, 5, 5, 5, 5, 6, 6, 6, 6, 6, 6, 6, 6, 6, 6, 6, 6, 6, 6, 6, 6, 6, 6, 6, 6, 6, 6, 6, 6, 6, 6, 6, 6, 6, 6, 6, 6] ++ [7, 7, 7, 7, 7, 7, 7, 7, 7, 7, 7, 7, 7, 7, 7, 7, 7, 7, 7, 7, 7, 7, 7, 7, 7, 7, 7, 7, 7, 7, 7, 7, 7, 7, 7, 7, 7, 7, 7, 7, 7, 7, 7, 7, 7, 7, 7, 7, 7, 7, 7, 7, 7, 7, 7, 7, 7, 7, 7, 7, 7, 7, 7, 7]) ++ ([8, 8, 8, 8, 8, 8, 8, 8, 8, 8, 8, 8, 8, 8, 8, 8, 8, 8, 8, 8, 8, 8, 8, 8, 8, 8, 8, 8, 8, 8, 8, 8, 8, 8, 8, 8, 8, 8, 8, 8, 8, 8, 8, 8, 8, 8, 8, 8, 8, 8, 8, 8, 8, 8, 8, 8, 8, 8, 8, 8, 8, 8, 8, 8] ++ [8, 8, 8, 8, 8, 8, 8, 8, 8, 8, 8, 8, 8, 8, 8, 8, 8, 8, 8, 8, 8, 8, 8, 8, 8, 8, 8, 8, 8, 8, 8, 8, 8, 8, 8, 8, 8, 8, 8, 8, 8, 8, 8, 8, 8, 8, 8, 8, 8, 8, 8, 8, 8, 8, 8, 8, 8, 8, 8, 8, 8, 8, 8, 8])) : List UInt8) (IntKind.wrap .u8 x9)).bind fun x16 => (some (IntKind.wrap .i64 (n10 + (IntKind.wrap .i64 (ofU8 x16)))))))))

def math_bits_Len (x : Int) : Option Int :=
  ((math_bits_Len64 x).bind fun y => (some y))

def cmp_isNaN_int (x : Int) : Option Bool :=
  (some (x != x))

def cmp_Less_int (x : Int) (y : Int) : Option Bool :=
  (((cmp_isNaN_int x).bind fun y1 => (if y1 then ((cmp_isNaN_int y).bind fun y2 => (if (!y2) then (some true) else (some (decide (x < y))))) else (some (decide (x < y))))).bind fun t4 => (some t4))

def slices_insertionSortOrdered_int_L2 (a : Int) : (Int × (List Int)) → Option (Ctl (List Int) (Int × (List Int)))
  | (j32, mpdata33) => ((if (decide (j32 > a)) then ((idx mpdata33 j32).bind fun x => ((idx mpdata33 (IntKind.wrap .i64 (j32 - 1))).bind fun x45 => ((cmp_Less_int x x45).bind fun y => (some y)))) else (some false)).bind fun t30 => (if t30 then ((idx mpdata33 (IntKind.wrap .i64 (j32 - 1))).bind fun x47 => ((idx mpdata33 j32).bind fun x48 => ((updL mpdata33 j32 x47).bind fun m => ((idx m (IntKind.wrap .i64 (j32 - 1))).bind fun x53 => ((updL m (IntKind.wrap .i64 (j32 - 1)) x48).bind fun m54 => (some (.go ((IntKind.wrap .i64 (j32 - 1)), m54)))))))) else (early (some mpdata33))))

def slices_insertionSortOrdered_int_L1 (a : Int) (b : Int) : (Int × (List Int)) → Option (Ctl (List Int) (Int × (List Int)))
  | (i10, mpdata11) => (if (decide (i10 < b)) then ((loopN (slices_insertionSortOrdered_int_L2 a) fuel (i10, mpdata11)).bind fun mpdata17 => (some (.go ((IntKind.wrap .i64 (i10 + 1)), mpdata17)))) else (early (some mpdata11)))

def slices_insertionSortOrdered_int (data : (List Int)) (a : Int) (b : Int) : Option (List Int) :=
  ((loopN (slices_insertionSortOrdered_int_L1 a b) fuel ((IntKind.wrap .i64 (a + 1)), data)).bind fun mpdata => (some mpdata))

def slices_xorshift_Next (vr : Int) : Option (Int × Int) :=
  (some ((Go.bits .xor .u64 (Go.bits .xor .u64 (Go.bits .xor .u64 vr (shlI .u64 vr 13)) (shrI (Go.bits .xor .u64 vr (shlI .u64 vr 13)) 7)) (shlI .u64 (Go.bits .xor .u64 (Go.bits .xor .u64 vr (shlI .u64 vr 13)) (shrI (Go.bits .xor .u64 vr (shlI .u64 vr 13)) 7)) 17)), (Go.bits .xor .u64 (Go.bits .xor .u64 (Go.bits .xor .u64 vr (shlI .u64 vr 13)) (shrI (Go.bits .xor .u64 vr (shlI .u64 vr 13)) 7)) (shlI .u64 (Go.bits .xor .u64 (Go.bits .xor .u64 vr (shlI .u64 vr 13)) (shrI (Go.bits .xor .u64 vr (shlI .u64 vr 13)) 7)) 17))))

def slices_pdqsortOrdered_int_L1 (a0 : (List Int)) (a1 : Int) (a2 : Int) (a3 : Int) : Unit → Option (Ctl (List Int) Unit)
  | () => (if (decide ((IntKind.wrap .i64 (a2 - a1)) ≤ 12)) then ((slices_insertionSortOrdered_int a0 a1 a2).bind fun y => ((chkl a0.length y).bind fun () => (early (some y)))) else (if (a3 == 0) then none else none))

def slices_pdqsortOrdered_int (a0 : (List Int)) (a1 : Int) (a2 : Int) (a3 : Int) : Option (List Int) :=
  loopN (slices_pdqsortOrdered_int_L1 a0 a1 a2 a3) fuel ()

def slices_Sort_Lint_int (x : (List Int)) : Option (List Int) :=
  ((math_bits_Len (IntKind.wrap .u64 (x.length : Int))).bind fun y => ((slices_pdqsortOrdered_int x 0 (x.length : Int) y).bind fun y1 => ((chkl x.length y1).bind fun () => (some y1))))

end Go.Proofs.Yteoalgkckhijlaa.Am
