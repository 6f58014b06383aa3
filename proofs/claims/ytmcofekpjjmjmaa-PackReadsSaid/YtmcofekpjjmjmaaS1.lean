/- Functions, read as partial functions over lists. -/
import Derived.Test.YtmcofekpjjmjmaaD1
namespace Go.Proofs.Ytmcofekpjjmjmaa.Am
open Go
set_option linter.unusedVariables false
set_option maxRecDepth 10000

structure Pack_rest where
  b : (List Int)
  e : Int
deriving Inhabited
def c_Pack_rest (x : Pack_rest) : List PV := [.sl 1 (x.b.map c_u8), .sc (.int .i64 x.e)]

structure Pack_Reader where
  rest : Pack_rest
deriving Inhabited
def c_Pack_Reader (x : Pack_Reader) : List PV := [.sl 1 (x.rest.b.map c_u8), .sc (.int .i64 x.rest.e)]

structure Mementoref1_Reader where
  B : (List Int)
  E : Int
deriving Inhabited
def c_Mementoref1_Reader (x : Mementoref1_Reader) : List PV := [.sl 1 (x.B.map c_u8), .sc (.int .i64 x.E)]

structure Mementolaw1_Act where
  Lump : Bool
  Most : Int
deriving Inhabited
def c_Mementolaw1_Act (x : Mementolaw1_Act) : List PV := [.sc (.bool x.Lump), .sc (.int .u64 x.Most)]

def ok_Mementolaw1_Act (x : Mementolaw1_Act) : Prop := True ∧ Ik .u64 x.Most

def pack_Put_L2 : ((List Int) × Int) → Option (Ctl ((List Int) × Int) ((List Int) × Int))
  | (out36, n38) => (if (decide (n38 ≥ 128)) then ((app 1 out36 ([(Go.bits .or .u8 (IntKind.wrap .u8 n38) 128)] : (List Int))).bind fun m => (some (.go (m, (shrI n38 7))))) else (early (some (out36, n38))))

def pack_Put_L1 (l : (List Int)) : ((List Int) × Int) → Option (Ctl (List Int) ((List Int) × Int))
  | (out9, t811) => (if (decide (t811 < (l.length : Int))) then ((idx l t811).bind fun x => ((loopN (pack_Put_L2) fuel (out9, x)).bind fun (out17, n) => ((app 1 out17 ([(IntKind.wrap .u8 n)] : (List Int))).bind fun m50 => (some (.go (m50, (IntKind.wrap .i64 (t811 + 1)))))))) else (early (some out9)))

def pack_Put (l : (List Int)) : Option (List Int) :=
  ((loopN (pack_Put_L1 l) fuel (([] : (List Int)), 0)).bind fun out => (some out))

def pack_Lump (b : (List Int)) : Option (List Int) :=
  ((pack_Put ([(IntKind.wrap .u64 (b.length : Int))] : (List Int))).bind fun y => ((app 1 y b).bind fun m => (some m)))

def slices_Grow_Lbyte_byte_nil (n : Int) : Option (List Int) :=
  (if (decide (n < 0)) then none else (if (decide ((IntKind.wrap .i64 (n - (IntKind.wrap .i64 (0 - 0)))) > 0)) then ((slc ([] : (List Int)) 0 0).bind fun m => ((mkz 1 (IntKind.wrap .i64 (n - (IntKind.wrap .i64 (0 - 0))))).bind fun u => (some ([] : (List Int))))) else (some ([] : (List Int)))))

def slices_Concat_Lbyte_byte_L1 (slices : (List (List Int))) : (Int × Int) → Option (Ctl Int (Int × Int))
  | (size6, t117) => (if (decide (t117 < (slices.length : Int))) then ((idx slices t117).bind fun x => (if (decide ((IntKind.wrap .i64 (size6 + (x.length : Int))) < 0)) then none else (some (.go ((IntKind.wrap .i64 (size6 + (x.length : Int))), (IntKind.wrap .i64 (t117 + 1))))))) else (early (some size6)))

def slices_Concat_Lbyte_byte_L2 (slices : (List (List Int))) : ((List Int) × Int) → Option (Ctl (List Int) ((List Int) × Int))
  | (newslice29, t2731) => (if (decide (t2731 < (slices.length : Int))) then ((idx slices t2731).bind fun x39 => ((app 1 newslice29 x39).bind fun m => (some (.go (m, (IntKind.wrap .i64 (t2731 + 1))))))) else (early (some newslice29)))

def slices_Concat_Lbyte_byte (slices : (List (List Int))) : Option (List Int) :=
  ((loopN (slices_Concat_Lbyte_byte_L1 slices) fuel (0, 0)).bind fun size => ((slices_Grow_Lbyte_byte_nil size).bind fun y => ((loopN (slices_Concat_Lbyte_byte_L2 slices) fuel (y, 0)).bind fun newslice => (some newslice))))

def pack_Join (l : (List (List Int))) : Option (List Int) :=
  ((slices_Concat_Lbyte_byte l).bind fun y => (some y))

def slices_Clone_Lbyte_byte (vs : (List Int)) : Option (List Int) :=
  ((app 1 ([] : (List Int)) vs).bind fun m => (some m))

def pack_New (b : (List Int)) : Option Pack_Reader :=
  ((slices_Clone_Lbyte_byte b).bind fun y => (some (Pack_Reader.mk (Pack_rest.mk y 0))))

def pack_number_L1 (b : (List Int)) : (Int × Int) → Option (Ctl (Ctl (Int × Int × Int) Unit) (Int × Int))
  | (n5, t106) => (if (decide (t106 < (b.length : Int))) then ((idx b t106).bind fun x => ((if (t106 == 9) then (some (decide (x > 1))) else (some false)).bind fun t20 => (if t20 then (early (early (some (0, 0, 20)))) else ((cnt .u64 (IntKind.wrap .i64 (7 * t106))).bind fun n15 => (if ((Go.bits .and .u8 x 128) != 0) then (some (.go ((Go.bits .or .u64 n5 (shlI .u64 (IntKind.wrap .u64 (Go.bits .andNot .u8 x 128)) n15)), (IntKind.wrap .i64 (t106 + 1))))) else ((if (decide (t106 > 0)) then (some (x == 0)) else (some false)).bind fun t37 => (if t37 then (early (early (some (0, 0, 20)))) else (early (early (some ((Go.bits .or .u64 n5 (shlI .u64 (IntKind.wrap .u64 (Go.bits .andNot .u8 x 128)) n15)), (IntKind.wrap .i64 (t106 + 1)), 0))))))))))) else (early (some (.go ()))))

def pack_number (b : (List Int)) : Option (Int × Int × Int) :=
  (kont (loopN (pack_number_L1 b) fuel (0, 0)) fun () => (some (0, 0, 21)))

def pack_rest_fail (vr : Pack_rest) (e : Int) : Option Pack_rest :=
  (some (Pack_rest.mk ([] : (List Int)) e))

def pack_Reader_Num (vr : Pack_Reader) (most : Int) : Option (Int × Pack_Reader) :=
  (if (vr.rest.e != 0) then (some (0, vr)) else ((pack_number vr.rest.b).bind fun (y, y1, y2) => (if (y2 != 0) then ((pack_rest_fail vr.rest y2).bind fun y4 => (some (0, (Pack_Reader.mk y4)))) else (if (decide (y > most)) then ((pack_rest_fail vr.rest 22).bind fun y7 => (some (0, (Pack_Reader.mk y7)))) else ((slc vr.rest.b y1 (vr.rest.b.length : Int)).bind fun m => (some (y, (Pack_Reader.mk (Pack_rest.mk m vr.rest.e)))))))))

def pack_Reader_Lump (vr : Pack_Reader) (most : Int) : Option ((List Int) × Pack_Reader) :=
  ((pack_Reader_Num vr (IntKind.wrap .u64 (maxI most 0))).bind fun (y, y1) => (if (y1.rest.e != 0) then (some (([] : (List Int)), y1)) else (if (decide (y > (IntKind.wrap .u64 (y1.rest.b.length : Int)))) then ((pack_rest_fail y1.rest 21).bind fun y3 => (some (([] : (List Int)), (Pack_Reader.mk y3)))) else ((slc y1.rest.b 0 y).bind fun m => ((slices_Clone_Lbyte_byte m).bind fun y8 => ((slc y1.rest.b y (y1.rest.b.length : Int)).bind fun m10 => (some (y8, (Pack_Reader.mk (Pack_rest.mk m10 y1.rest.e))))))))))

def pack_rest_Left (vr : Pack_rest) : Option Int :=
  (some (vr.b.length : Int))

def pack_rest_Err (vr : Pack_rest) : Option Int :=
  (some vr.e)

def mementolaw1_known : Option Bool :=
  ((pack_Put ([300, 1] : (List Int))).bind fun y => ((pack_Lump ([97, 98] : (List Int))).bind fun y3 => ((pack_Join ([y, y3, ([128] : (List Int))] : (List (List Int)))).bind fun y5 => ((pack_New y5).bind fun y7 => ((pack_Reader_Num y7 300).bind fun (y14, y15) => ((pack_Reader_Num y15 9).bind fun (y20, y21) => ((pack_Reader_Lump y21 2).bind fun (y26, y27) => ((pack_rest_Left y27.rest).bind fun y32 => ((pack_Reader_Num y27 9).bind fun (y34, y35) => ((if ((strOf y) == ([172, 2, 1] : List UInt8)) then (if (y14 == 300) then (if (y20 == 1) then (if ((strOf y26) == ([97, 98] : List UInt8)) then (if (y32 == 1) then (if (y34 == 0) then ((pack_rest_Err y35.rest).bind fun y48 => (if (y48 == 21) then ((pack_rest_Left y35.rest).bind fun y51 => (if (y51 == 0) then ((pack_Put ([] : (List Int))).bind fun y54 => (some ((y54.length : Int) == 0))) else (some false))) else (some false))) else (some false)) else (some false)) else (some false)) else (some false)) else (some false)) else (some false)).bind fun t0 => (some t0)))))))))))

def mementoref1_Put_L2 : ((List Int) × Int) → Option (Ctl ((List Int) × Int) ((List Int) × Int))
  | (b36, n38) => (if (decide (n38 ≥ 128)) then ((app 1 b36 ([(Go.bits .or .u8 (IntKind.wrap .u8 n38) 128)] : (List Int))).bind fun m => (some (.go (m, (shrI n38 7))))) else (early (some (b36, n38))))

def mementoref1_Put_L1 (l : (List Int)) : ((List Int) × Int) → Option (Ctl (List Int) ((List Int) × Int))
  | (b9, i11) => (if (decide (i11 < (l.length : Int))) then ((idx l i11).bind fun x => ((loopN (mementoref1_Put_L2) fuel (b9, x)).bind fun (b17, n) => ((app 1 b17 ([(IntKind.wrap .u8 n)] : (List Int))).bind fun m50 => (some (.go (m50, (IntKind.wrap .i64 (i11 + 1)))))))) else (early (some b9)))

def mementoref1_Put (l : (List Int)) : Option (List Int) :=
  ((loopN (mementoref1_Put_L1 l) fuel (([] : (List Int)), 0)).bind fun b => (some b))

def mementoref1_Lump (b : (List Int)) : Option (List Int) :=
  ((mementoref1_Put ([(IntKind.wrap .u64 (b.length : Int))] : (List Int))).bind fun y => ((app 1 y b).bind fun m => (some m)))

def mementolaw1_edge (n : Int) (k : Int) : Option Int :=
  ((remI (IntKind.wrap .i64 k) (([n, (shrI n 32), (shrI n 57), 0, 1, 127, 128, 16383, 16384, 9223372036854775807, 9223372036854775808, 18446744073709551615] : (List Int)).length : Int)).bind fun x => ((idx ([n, (shrI n 32), (shrI n 57), 0, 1, 127, 128, 16383, 16384, 9223372036854775807, 9223372036854775808, 18446744073709551615] : (List Int)) x).bind fun x1 => (some x1)))

def mementoref1_Reader_fail (vr : Mementoref1_Reader) (e : Int) : Option Mementoref1_Reader :=
  (some (Mementoref1_Reader.mk ([] : (List Int)) e))

def mementoref1_Reader_Num_L1 (a0 : Mementoref1_Reader) (a1 : Int) : (Int × Int) → Option (Ctl (Ctl (Int × Mementoref1_Reader) Unit) (Int × Int))
  | (t57, t68) => (if (decide (t68 < (a0.B.length : Int))) then ((idx a0.B t68).bind fun x => ((if (t68 == 9) then (some (decide (x > 1))) else (some false)).bind fun t34 => (if t34 then ((mementoref1_Reader_fail a0 20).bind fun y => (early (early (some (0, y))))) else ((cnt .u64 (IntKind.wrap .i64 (7 * t68))).bind fun n => (if (decide (x < 128)) then ((if (decide (t68 > 0)) then (some (x == 0)) else (some false)).bind fun t52 => (if t52 then ((mementoref1_Reader_fail a0 20).bind fun y30 => (early (early (some (0, y30))))) else (if (decide ((Go.bits .or .u64 t57 (shlI .u64 (IntKind.wrap .u64 (Go.bits .and .u8 x 127)) n)) > a1)) then ((mementoref1_Reader_fail a0 22).bind fun y36 => (early (early (some (0, y36))))) else ((slc a0.B (IntKind.wrap .i64 (t68 + 1)) (a0.B.length : Int)).bind fun m => (early (early (some ((Go.bits .or .u64 t57 (shlI .u64 (IntKind.wrap .u64 (Go.bits .and .u8 x 127)) n)), (Mementoref1_Reader.mk m a0.E))))))))) else (some (.go ((Go.bits .or .u64 t57 (shlI .u64 (IntKind.wrap .u64 (Go.bits .and .u8 x 127)) n)), (IntKind.wrap .i64 (t68 + 1)))))))))) else (early (some (.go ()))))

def mementoref1_Reader_Num (a0 : Mementoref1_Reader) (a1 : Int) : Option (Int × Mementoref1_Reader) :=
  (if (a0.E != 0) then (some (0, a0)) else (kont (loopN (mementoref1_Reader_Num_L1 a0 a1) fuel (0, 0)) fun () => ((mementoref1_Reader_fail a0 21).bind fun y44 => (some (0, y44)))))

def mementoref1_Reader_Lump (vr : Mementoref1_Reader) (most : Int) : Option ((List Int) × Mementoref1_Reader) :=
  ((mementoref1_Reader_Num vr (IntKind.wrap .u64 (maxI most 0))).bind fun (y, y1) => (if (y1.E != 0) then (some (([] : (List Int)), y1)) else (if (decide (y > (IntKind.wrap .u64 (y1.B.length : Int)))) then ((mementoref1_Reader_fail y1 21).bind fun y3 => (some (([] : (List Int)), y3))) else ((slc y1.B 0 y).bind fun m => ((slc y1.B y (y1.B.length : Int)).bind fun m8 => (some (m, (Mementoref1_Reader.mk m8 y1.E))))))))

def mementolaw1_PackReads_L1 (a2 : (List (List Int))) : ((List Int) × (List Int) × Int) → Option (Ctl (Ctl Bool ((List Int) × (List Int))) ((List Int) × (List Int) × Int))
  | (t1122, t1224, t1326) => (if (decide (t1326 < (a2.length : Int))) then ((idx a2 t1326).bind fun x => (if (decide ((x.length : Int) > 30)) then (early (early (some true))) else ((pack_Lump x).bind fun y38 => ((mementoref1_Lump x).bind fun y40 => (if ((strOf y38) != (strOf y40)) then (early (early (some false))) else ((app 1 t1122 y40).bind fun m => ((app 1 t1224 x).bind fun m49 => (some (.go (m, m49, (IntKind.wrap .i64 (t1326 + 1)))))))))))) else (early (some (.go (t1122, t1224)))))

def mementolaw1_PackReads_L2 (a1 : (List Int)) (a4 : Int) : ((List Int) × Int) → Option (Ctl (List Int) ((List Int) × Int))
  | (t1187, t1489) => (if (decide (t1489 < (a1.length : Int))) then ((idx a1 t1489).bind fun x97 => ((mementolaw1_edge x97 (IntKind.wrap .u8 (a4 + (IntKind.wrap .u8 t1489)))).bind fun y98 => ((mementoref1_Put ([y98] : (List Int))).bind fun y100 => ((app 1 t1187 y100).bind fun m102 => (some (.go (m102, (IntKind.wrap .i64 (t1489 + 1))))))))) else (early (some t1187)))

def mementolaw1_PackReads_L4 (a3 : (List Mementolaw1_Act)) : (Int × Pack_rest × Mementoref1_Reader) → Option (Ctl (Ctl (Ctl (Ctl Bool Unit) Int) (Pack_rest × Mementoref1_Reader)) (Int × Pack_rest × Mementoref1_Reader))
  | (t19179, me152_rest180, me157181) => (if (decide (t19179 < (a3.length : Int))) then ((idx a3 t19179).bind fun x189 => ((if (decide ((Int.tmod t19179 3) > 0)) then ((idx ([31, 18446744073709551615, 127] : (List Int)) (Int.tmod x189.Most 3)).bind fun x211 => (some x211)) else (some x189.Most)).bind fun me191_Most => (kont (if x189.Lump then ((if ((shrI me191_Most 60) == 15) then (some (-1)) else (some (IntKind.wrap .i64 (Go.bits .and .u64 me191_Most 4095)))).bind fun t21 => ((pack_Reader_Lump (Pack_Reader.mk me152_rest180) t21).bind fun (y234, y235) => ((mementoref1_Reader_Lump me157181 t21).bind fun (y242, y243) => (if ((strOf y234) != (strOf y242)) then (early (early (early (early (early (some false)))))) else (some (.go (y235.rest, y243))))))) else ((pack_Reader_Num (Pack_Reader.mk me152_rest180) me191_Most).bind fun (y251, y252) => ((mementoref1_Reader_Num me157181 me191_Most).bind fun (y259, y260) => (if (y251 != y259) then (early (early (early (early (early (some false)))))) else (some (.go (y252.rest, y260))))))) fun (me152_rest217, me157218) => (((pack_rest_Err me152_rest217).bind fun y274 => (if (y274 != me157218.E) then (some true) else ((pack_rest_Left me152_rest217).bind fun y277 => (some (y277 != (me157218.B.length : Int)))))).bind fun t204 => (if t204 then (early (early (early (early (some false))))) else (some (.go ((IntKind.wrap .i64 (t19179 + 1)), me152_rest217, me157218)))))))) else (early (some (.go (me152_rest180, me157181)))))

def mementolaw1_PackReads_L3 (a0 : (List Int)) (a3 : (List Mementolaw1_Act)) (t1170 : (List Int)) (m116 : (List Int)) (m124 : (List Int)) : Int → Option (Ctl (Ctl Bool Unit) Int)
  | t127142 => (if (decide (t127142 < (([a0, t1170, m116, m124] : (List (List Int))).length : Int))) then ((idx ([a0, t1170, m116, m124] : (List (List Int))) t127142).bind fun x148 => ((pack_New x148).bind fun y149 => (kont (loopN (mementolaw1_PackReads_L4 a3) fuel (0, y149.rest, (Mementoref1_Reader.mk x148 0))) fun (me152_rest, me157) => (some (.go (IntKind.wrap .i64 (t127142 + 1))))))) else (early (some (.go ()))))

def mementolaw1_PackReads (a0 : (List Int)) (a1 : (List Int)) (a2 : (List (List Int))) (a3 : (List Mementolaw1_Act)) (a4 : Int) : Option Bool :=
  ((mementolaw1_known).bind fun y => (if (!y) then (some false) else ((if (decide ((a0.length : Int) > 60)) then (some true) else (if (decide ((a1.length : Int) > 12)) then (some true) else (if (decide ((a2.length : Int) > 6)) then (some true) else (some (decide ((a3.length : Int) > 30)))))).bind fun t41 => (if t41 then (some true) else (kont (loopN (mementolaw1_PackReads_L1 a2) fuel (([] : (List Int)), ([] : (List Int)), 0)) fun (t11, t12) => (((pack_Join a2).bind fun y62 => (if ((strOf y62) != (strOf t12)) then (some true) else ((pack_Put a1).bind fun y65 => ((mementoref1_Put a1).bind fun y67 => (some ((strOf y65) != (strOf y67))))))).bind fun t94 => (if t94 then (some false) else ((loopN (mementolaw1_PackReads_L2 a1 a4) fuel (t11, 0)).bind fun t1170 => ((app 1 ([] : (List Int)) t1170).bind fun m108 => ((app 1 m108 a0).bind fun m116 => ((app 1 ([128, 128, 128, 128, 128, 128, 128, 128, 128, (Int.tmod a4 4)] : (List Int)) a0).bind fun m124 => (kont (loopN (mementolaw1_PackReads_L3 a0 a3 t1170 m116 m124) fuel 0) fun () => (some true)))))))))))))

def mementolaw1_PackBack_L1 (a0 : (List Int)) (a1 : (List (List Int))) (a2 : Int) : ((List Int) × Int) → Option (Ctl (Ctl Bool (List Int)) ((List Int) × Int))
  | (t710, t811) => (if (decide (t811 < (a1.length : Int))) then ((idx a1 t811).bind fun x => (if (decide ((x.length : Int) > 40)) then (early (early (some true))) else ((idx a0 t811).bind fun x18 => ((mementolaw1_edge x18 a2).bind fun y19 => ((pack_Put ([y19, x18] : (List Int))).bind fun y21 => ((pack_Lump x).bind fun y23 => ((pack_Join ([t710, y21, y23] : (List (List Int)))).bind fun y25 => (some (.go (y25, (IntKind.wrap .i64 (t811 + 1)))))))))))) else (early (some (.go t710))))

def mementolaw1_PackBack_L2 (a0 : (List Int)) (a1 : (List (List Int))) (a2 : Int) : (Int × Pack_rest) → Option (Ctl (Ctl Bool Pack_rest) (Int × Pack_rest))
  | (t1043, me_rest44) => (if (decide (t1043 < (a1.length : Int))) then (((pack_Reader_Num (Pack_Reader.mk me_rest44) 18446744073709551615).bind fun (y57, y58) => ((idx a0 t1043).bind fun x63 => ((mementolaw1_edge x63 a2).bind fun y64 => (if (y57 != y64) then (some (true, y58.rest)) else ((pack_Reader_Num y58 x63).bind fun (y67, y68) => (if (y67 != x63) then (some (true, y68.rest)) else ((pack_Reader_Lump y68 40).bind fun (y74, y75) => ((idx a1 t1043).bind fun x80 => (if ((strOf y74) != (strOf x80)) then (some (true, y75.rest)) else ((pack_rest_Err y75.rest).bind fun y82 => (some ((y82 != 0), y75.rest)))))))))))).bind fun (t102, me_rest51) => (if t102 then (early (early (some false))) else (some (.go ((IntKind.wrap .i64 (t1043 + 1)), me_rest51))))) else (early (some (.go me_rest44))))

def mementolaw1_PackBack (a0 : (List Int)) (a1 : (List (List Int))) (a2 : Int) : Option Bool :=
  ((mementolaw1_known).bind fun y => (if (!y) then (some false) else ((if (decide ((a1.length : Int) > 8)) then (some true) else (some (decide ((a0.length : Int) < (a1.length : Int))))).bind fun t22 => (if t22 then (some true) else (kont (loopN (mementolaw1_PackBack_L1 a0 a1 a2) fuel (([] : (List Int)), 0)) fun t7 => ((pack_New t7).bind fun y27 => (kont (loopN (mementolaw1_PackBack_L2 a0 a1 a2) fuel (0, y27.rest)) fun me_rest => ((pack_rest_Left me_rest).bind fun y85 => (some (y85 == 0))))))))))

def mementolaw1_PackEnds (a0 : Int) (a1 : Int) (a2 : (List Int)) : Option Bool :=
  ((mementolaw1_known).bind fun y => (if (!y) then (some false) else (if (decide ((a2.length : Int) > 40)) then (some true) else ((mementolaw1_edge a0 a1).bind fun y2 => ((pack_Put ([y2] : (List Int))).bind fun y4 => ((pack_Join ([y4, a2] : (List (List Int)))).bind fun y6 => ((pack_New y6).bind fun y8 => (if (y2 == 0) then (((pack_Reader_Num y8 0).bind fun (y14, y15) => (if (y14 == 0) then ((pack_rest_Err y15.rest).bind fun y20 => (if (y20 == 0) then ((pack_rest_Left y15.rest).bind fun y23 => (some ((y23 == (a2.length : Int)), y15.rest))) else (some (false, y15.rest)))) else (some (false, y15.rest)))).bind fun (t6, me_rest) => (some t6)) else (((pack_Reader_Num y8 (IntKind.wrap .u64 (y2 - 1))).bind fun (y31, y32) => (if (y31 != 0) then (some (true, y32.rest)) else ((pack_rest_Err y32.rest).bind fun y38 => (if (y38 != 22) then (some (true, y32.rest)) else ((pack_rest_Left y32.rest).bind fun y41 => (if (y41 != 0) then (some (true, y32.rest)) else ((pack_Reader_Num y32 18446744073709551615).bind fun (y44, y45) => (if (y44 != 0) then (some (true, y45.rest)) else ((pack_Reader_Lump y45 9).bind fun (y51, y52) => (some (((y51.length : Int) != 0), y52.rest))))))))))).bind fun (t75, me_rest25) => (if t75 then (some false) else ((app 1 ([1] : (List Int)) a2).bind fun m => ((pack_Lump m).bind fun y64 => ((slc y64 0 (IntKind.wrap .i64 (1 + (a2.length : Int)))).bind fun m66 => ((pack_New m66).bind fun y67 => (((pack_Reader_Lump y67 99).bind fun (y85, y86) => (if ((y85.length : Int) == 0) then ((pack_rest_Err y86.rest).bind fun y94 => (if (y94 == 21) then ((pack_rest_Err me_rest25).bind fun y97 => (some ((y97 == 22), y86.rest))) else (some (false, y86.rest)))) else (some (false, y86.rest)))).bind fun (t678, me70_rest) => (some t678))))))))))))))))

def mementolaw1_PackShort_L1 : (Int × Int) → Option (Ctl Int (Int × Int))
  | (want12, y13) => (if (decide (y13 > 0)) then (some (.go ((IntKind.wrap .i64 (want12 + 1)), (shrI y13 7)))) else (early (some want12)))

def mementolaw1_PackShort (n : Int) (k : Int) (cut : Int) : Option Bool :=
  ((mementolaw1_known).bind fun y => (if (!y) then (some false) else ((mementolaw1_edge n k).bind fun y1 => ((pack_Put ([y1] : (List Int))).bind fun y3 => ((loopN (mementolaw1_PackShort_L1) fuel (1, (shrI y1 7))).bind fun want => ((remI (IntKind.wrap .i64 cut) (maxI (y3.length : Int) 1)).bind fun x => ((slc y3 0 x).bind fun m => ((pack_New m).bind fun y18 => ((if ((y3.length : Int) == want) then ((pack_Reader_Num y18 18446744073709551615).bind fun (y27, y28) => (if (y27 == 0) then ((pack_rest_Err y28.rest).bind fun y34 => (some ((y34 == 21), y28.rest))) else (some (false, y28.rest)))) else (some (false, y18.rest))).bind fun (t6, me_rest) => (some t6))))))))))

def mementolaw1_PackParts (a : (List Int)) (b : (List Int)) : Option Bool :=
  ((mementolaw1_known).bind fun y => (if (!y) then (some false) else ((if (decide ((a.length : Int) > 20)) then (some true) else (some (decide ((b.length : Int) > 20)))).bind fun t15 => (if t15 then (some true) else ((app 8 ([] : (List Int)) a).bind fun m => ((app 8 m b).bind fun m4 => (((pack_Put m4).bind fun y13 => ((pack_Put a).bind fun y15 => ((pack_Put b).bind fun y17 => ((pack_Join ([y15, y17] : (List (List Int)))).bind fun y19 => (if ((strOf y13) == (strOf y19)) then ((pack_Join ([y13] : (List (List Int)))).bind fun y22 => (if ((strOf y22) == (strOf y13)) then ((pack_Join ([] : (List (List Int)))).bind fun y25 => (some ((y25.length : Int) == 0))) else (some false))) else (some false)))))).bind fun t4 => (some t4))))))))

end Go.Proofs.Ytmcofekpjjmjmaa.Am
