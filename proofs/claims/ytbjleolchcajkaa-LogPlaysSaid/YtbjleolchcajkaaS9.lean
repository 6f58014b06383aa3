/- Functions, read as partial functions over lists. -/
import Derived.Test.YtbjleolchcajkaaD1
namespace Go.Proofs.Ytbjleolchcajkaa.Am
open Go
set_option linter.unusedVariables false
set_option maxRecDepth 10000

structure Api_Base where
  Index : Int
  Term : Int
  Conf : (List Int)
  Data : (List Int)
deriving Inhabited
structure Api_Entry where
  Index : Int
  Term : Int
  Kind : Int
  Data : (List Int)
deriving Inhabited
def c_Api_Entry (x : Api_Entry) : List PV := [.sc (.int .i64 x.Index), .sc (.int .i64 x.Term), .sc (.int .i64 x.Kind), .sl 1 (x.Data.map c_u8)]

structure Rlog_tail where
  base : Api_Base
  l : (List Api_Entry)
deriving Inhabited

structure Rlog_Log where
  tail : Rlog_tail
deriving Inhabited

structure Mementoref6_Log where
  Base : Api_Base
  L : (List Api_Entry)
deriving Inhabited
structure Mementolaw9_Act where
  What : Int
  A : Int
  B : Int
  C : Int
  L : (List Int)
deriving Inhabited
def c_Mementolaw9_Act (x : Mementolaw9_Act) : List PV := [.sc (.int .u8 x.What), .sc (.int .u8 x.A), .sc (.int .u8 x.B), .sc (.int .u8 x.C), .sl 1 (x.L.map c_u8)]


def slices_Clone_Lint_int (vs : (List Int)) : Option (List Int) :=
  ((app 8 ([] : (List Int)) vs).bind fun m => (some m))

def slices_Clone_Lbyte_byte (vs : (List Int)) : Option (List Int) :=
  ((app 1 ([] : (List Int)) vs).bind fun m => (some m))

def rlog_under (b : Api_Base) : Option Api_Base :=
  ((slices_Clone_Lint_int b.Conf).bind fun y => ((slices_Clone_Lbyte_byte b.Data).bind fun y7 => (some (Api_Base.mk b.Index b.Term y y7))))

def rlog_copied (e : Api_Entry) : Option Api_Entry :=
  ((slices_Clone_Lbyte_byte e.Data).bind fun y => (some (Api_Entry.mk e.Index e.Term e.Kind y)))

def rlog_all_L1 (l : (List Api_Entry)) : (Int × (List Api_Entry)) → Option (Ctl (List Api_Entry) (Int × (List Api_Entry)))
  | (t1114, me15) => (if (decide (t1114 < (l.length : Int))) then ((idx l t1114).bind fun x => ((rlog_copied x).bind fun y => ((idx me15 t1114).bind fun x31 => ((updL me15 t1114 y).bind fun m32 => (some (.go ((IntKind.wrap .i64 (t1114 + 1)), m32))))))) else (early (some me15)))

def rlog_all (l : (List Api_Entry)) : Option (List Api_Entry) :=
  ((mks 48 (Api_Entry.mk 0 0 0 ([] : (List Int))) (l.length : Int)).bind fun m => ((loopN (rlog_all_L1 l) fuel (0, m)).bind fun me => (some me)))

def rlog_New_L1 (b : Api_Base) (l : (List Api_Entry)) : Int → Option (Ctl Int Int)
  | n11 => ((if (decide (n11 < (l.length : Int))) then ((idx l n11).bind fun x => (some (x.Index == (IntKind.wrap .i64 ((IntKind.wrap .i64 (b.Index + n11)) + 1))))) else (some false)).bind fun t22 => (if t22 then (some (.go (IntKind.wrap .i64 (n11 + 1)))) else (early (some n11))))

def rlog_New (b : Api_Base) (l : (List Api_Entry)) : Option Rlog_Log :=
  ((loopN (rlog_New_L1 b l) fuel 0).bind fun n => ((rlog_under b).bind fun y => ((slc l 0 n).bind fun m => ((rlog_all m).bind fun y20 => (some (Rlog_Log.mk (Rlog_tail.mk y y20)))))))

def rlog_tail_Last (t : Rlog_tail) : Option Int :=
  (some (IntKind.wrap .i64 (t.base.Index + (t.l.length : Int))))

def rlog_Log_Add (vg : Rlog_Log) (term : Int) (kind : Int) (data : (List Int)) : Option (Api_Entry × Rlog_Log) :=
  ((rlog_tail_Last vg.tail).bind fun y => ((slices_Clone_Lbyte_byte data).bind fun y2 => ((app 48 vg.tail.l ([(Api_Entry.mk (IntKind.wrap .i64 (y + 1)) term kind y2)] : (List Api_Entry))).bind fun m => ((rlog_copied (Api_Entry.mk (IntKind.wrap .i64 (y + 1)) term kind y2)).bind fun y58 => (some (y58, (Rlog_Log.mk (Rlog_tail.mk vg.tail.base m))))))))

def rlog_tail_Term (t : Rlog_tail) (i : Int) : Option Int :=
  (if (i == t.base.Index) then (some t.base.Term) else ((if (decide (i > t.base.Index)) then ((rlog_tail_Last t).bind fun y => (some (decide (i ≤ y)))) else (some false)).bind fun t18 => (if t18 then ((idx t.l (IntKind.wrap .i64 ((IntKind.wrap .i64 (i - t.base.Index)) - 1))).bind fun x => (some x.Term)) else (some (-1)))))

def rlog_Log_Follow_L1 (a0 : Rlog_Log) : (Int × (List Api_Entry)) → Option (Ctl (List Api_Entry) (Int × (List Api_Entry)))
  | (t132, t333) => ((if (decide ((t333.length : Int) > 0)) then (some (decide (t132 < a0.tail.base.Index))) else (some false)).bind fun t32 => (if t32 then ((slc t333 1 (t333.length : Int)).bind fun m => (some (.go ((IntKind.wrap .i64 (t132 + 1)), m)))) else (early (some t333))))

def rlog_Log_Follow_L2 (a0 : Rlog_Log) : (Int × (List Api_Entry)) → Option (Ctl (Int × (List Api_Entry)) (Int × (List Api_Entry)))
  | (t190, t391) => ((if (decide ((t391.length : Int) > 0)) then ((rlog_tail_Term a0.tail (IntKind.wrap .i64 (t190 + 1))).bind fun y102 => ((idx t391 0).bind fun x => (some (y102 == x.Term)))) else (some false)).bind fun t69 => (if t69 then ((slc t391 1 (t391.length : Int)).bind fun m105 => (some (.go ((IntKind.wrap .i64 (t190 + 1)), m105)))) else (early (some (t190, t391)))))

def rlog_Log_Follow (a0 : Rlog_Log) (a1 : Int) (a2 : Int) (a3 : (List Api_Entry)) : Option ((List Api_Entry) × Int × Bool × Rlog_Log) :=
  (kont (if (decide (a1 < a0.tail.base.Index)) then ((loopN (rlog_Log_Follow_L1 a0) fuel (a1, a3)).bind fun t313 => (some (.go (a0.tail.base.Index, t313)))) else ((rlog_tail_Term a0.tail a1).bind fun y => (if (y != a2) then (early (some (([] : (List Api_Entry)), 0, false, a0))) else (some (.go (a1, a3)))))) fun (t1, t3) => ((loopN (rlog_Log_Follow_L2 a0) fuel (t1, t3)).bind fun (t175, t376) => (if ((t376.length : Int) == 0) then (some (([] : (List Api_Entry)), (IntKind.wrap .i64 (t1 + (t3.length : Int))), true, a0)) else ((slc a0.tail.l 0 (IntKind.wrap .i64 (t175 - a0.tail.base.Index))).bind fun m123 => ((rlog_all t376).bind fun y124 => ((app 48 m123 y124).bind fun m126 => (some (y124, (IntKind.wrap .i64 (t1 + (t3.length : Int))), true, (Rlog_Log.mk (Rlog_tail.mk a0.tail.base m126))))))))))

def rlog_tail_From (t : Rlog_tail) (i : Int) (n : Int) : Option (List Api_Entry) :=
  (((rlog_tail_Last t).bind fun y => (if (decide (i > y)) then (some true) else (some (decide (n ≤ 0))))).bind fun t15 => (if t15 then (some ([] : (List Api_Entry))) else ((slc t.l (IntKind.wrap .i64 ((IntKind.wrap .i64 ((maxI i (IntKind.wrap .i64 (t.base.Index + 1))) - t.base.Index)) - 1)) (t.l.length : Int)).bind fun m => ((slc m 0 (minI n (m.length : Int))).bind fun m14 => ((rlog_all m14).bind fun y15 => (some y15))))))

def entry_time (n : Int) : Option Bool :=
  ((if (decide (n ≥ 0)) then (some (decide (n ≤ 1099511627776))) else (some false)).bind fun t2 => (some t2))

def entry_Right (e : Api_Entry) : Option Bool :=
  (((entry_time e.Index).bind fun y => (if (!y) then (some true) else (if (e.Index == 0) then (some true) else ((entry_time e.Term).bind fun y6 => (some (!y6)))))).bind fun t17 => (if t17 then (some false) else (if (e.Kind == 0) then (some ((e.Data.length : Int) == 0)) else (if (e.Kind == 1) then (some (decide ((e.Data.length : Int) ≤ 32767))) else (if (e.Kind == 2) then ((if ((e.Data.length : Int) == 2) then ((idx e.Data 0).bind fun x => (if (decide (x < 7)) then ((idx e.Data 1).bind fun x17 => (some (decide (x17 ≤ 1)))) else (some false))) else (some false)).bind fun t2 => (some t2)) else (some false))))))

def slices_IndexFunc_Lint_int_own0_L1 (vs : (List Int)) (f : (Int → Option Bool)) : Int → Option (Ctl (Ctl Int Unit) Int)
  | t810 => (if (decide (t810 < (vs.length : Int))) then ((idx vs t810).bind fun x => ((f x).bind fun y => (if y then (early (early (some t810))) else (some (.go (IntKind.wrap .i64 (t810 + 1))))))) else (early (some (.go ()))))

def slices_IndexFunc_Lint_int_own0 (vs : (List Int)) (f : (Int → Option Bool)) : Option Int :=
  (kont (loopN (slices_IndexFunc_Lint_int_own0_L1 vs f) fuel 0) fun () => (some (-1)))

def slices_DeleteFunc_Lint_int_L1 (vs : (List Int)) (del : (Int → Option Bool)) : (Int × Int × (List Int)) → Option (Ctl (Int × (List Int)) (Int × Int × (List Int)))
  | (i11, j12, mpvs13) => (if (decide (j12 < (vs.length : Int))) then (((idx mpvs13 j12).bind fun x => ((del x).bind fun y29 => (if (!y29) then ((idx mpvs13 i11).bind fun x31 => ((updL mpvs13 i11 x).bind fun m => (some ((IntKind.wrap .i64 (i11 + 1)), m)))) else (some (i11, mpvs13))))).bind fun (i21, mpvs22) => (some (.go (i21, (IntKind.wrap .i64 (j12 + 1)), mpvs22)))) else (early (some (i11, mpvs13))))

def slices_DeleteFunc_Lint_int (vs : (List Int)) (del : (Int → Option Bool)) : Option (List Int) :=
  ((slices_IndexFunc_Lint_int_own0 vs del).bind fun y => (if (y == (-1)) then (some vs) else ((loopN (slices_DeleteFunc_Lint_int_L1 vs del) fuel (y, (IntKind.wrap .i64 (y + 1)), vs)).bind fun (i, mpvs) => ((slcH vs.length i ((vs.length : Nat) : Int)).bind fun (o, k36) => ((slcH vs.length 0 i).bind fun (o42, k43) => (some ((fillL mpvs o k36 0).take k43)))))))

def conf_may (n : Int) : Option Bool :=
  ((if (decide (n ≥ 0)) then (some (decide (n < 7))) else (some false)).bind fun t2 => (some t2))

def conf_Of_1 (n : Int) : Option Bool :=
  ((conf_may n).bind fun y => (some (!y)))

def math_bits_Len64 (x : Int) : Option Int :=
  ((if (decide (x ≥ 4294967296)) then (some ((shrI x 32), 32)) else (some (x, 0))).bind fun (x1, n) => ((if (decide (x1 ≥ 65536)) then (some ((shrI x1 16), (IntKind.wrap .i64 (n + 16)))) else (some (x1, n))).bind fun (x2, n3) => ((if (decide (x2 ≥ 256)) then (some ((shrI x2 8), (IntKind.wrap .i64 (n3 + 8)))) else (some (x2, n3))).bind fun (x9, n10) => ((idx ((([0, 1, 2, 2, 3, 3, 3, 3, 4, 4, 4, 4, 4, 4, 4, 4, 5, 5, 5, 5, 5, 5, 5, 5, 5, 5, 5, 5, 5, 5, 5, 5, 6, 6, 6, 6, 6, 6, 6, 6, 6, 6, 6, 6, 6, 6, 6, 6, 6, 6, 6, 6, 6, 6, 6, 6, 6, 6, 6, 6, 6, 6, 6, 6] ++ [7, 7, 7, 7, 7, 7, 7, 7, 7, 7, 7, 7, 7, 7, 7, 7, 7, 7, 7, 7, 7, 7, 7, 7, 7, 7, 7, 7, 7, 7, 7, 7, 7, 7, 7, 7, 7, 7, 7, 7, 7, 7, 7, 7, 7, 7, 7, 7, 7, 7, 7, 7, 7, 7, 7, 7, 7, 7, 7, 7, 7, 7, 7, 7]) ++ ([8, 8, 8, 8, 8, 8, 8, 8, 8, 8, 8, 8, 8, 8, 8, 8, 8, 8, 8, 8, 8, 8, 8, 8, 8, 8, 8, 8, 8, 8, 8, 8, 8, 8, 8, 8, 8, 8, 8, 8, 8, 8, 8, 8, 8, 8, 8, 8, 8, 8, 8, 8, 8, 8, 8, 8, 8, 8, 8, 8, 8, 8, 8, 8] ++ [8, 8, 8, 8, 8, 8, 8, 8, 8, 8, 8, 8, 8, 8, 8, 8, 8, 8, 8, 8, 8, 8, 8, 8, 8, 8, 8, 8, 8, 8, 8, 8, 8, 8, 8, 8, 8, 8, 8, 8, 8, 8, 8, 8, 8, 8, 8, 8, 8, 8, 8, 8, 8, 8, 8, 8, 8, 8, 8, 8, 8, 8, 8, 8])) : List UInt8) (IntKind.wrap .u8 x9)).bind fun x16 => (some (IntKind.wrap .i64 (n10 + (IntKind.wrap .i64 (ofU8 x16)))))))))

def math_bits_Len (x : Int) : Option Int :=
  ((math_bits_Len64 x).bind fun y => (some y))

def cmp_isNaN_int (x : Int) : Option Bool :=
  (some (x != x))

def cmp_Less_int (x : Int) (y : Int) : Option Bool :=
  (((cmp_isNaN_int x).bind fun y1 => (if y1 then ((cmp_isNaN_int y).bind fun y2 => (if (!y2) then (some true) else (some (decide (x < y))))) else (some (decide (x < y))))).bind fun t4 => (some t4))

def slices_insertionSortOrdered_int_L2 (a : Int) : (Int × (List Int)) → Option (Ctl (List Int) (Int × (List Int)))
  | (j32, mpdata33) => ((if (decide (j32 > a)) then ((idx mpdata33 j32).bind fun x => ((idx mpdata33 (IntKind.wrap .i64 (j32 - 1))).bind fun x45 => ((cmp_Less_int x x45).bind fun y => (some y)))) else (some false)).bind fun t30 => (if t30 then ((idx mpdata33 (IntKind.wrap .i64 (j32 - 1))).bind fun x47 => ((idx mpdata33 j32).bind fun x48 => ((updL mpdata33 j32 x47).bind fun m => ((idx m (IntKind.wrap .i64 (j32 - 1))).bind fun x53 => ((updL m (IntKind.wrap .i64 (j32 - 1)) x48).bind fun m54 => (some (.go ((IntKind.wrap .i64 (j32 - 1)), m54)))))))) else (early (some mpdata33))))

def slices_insertionSortOrdered_int_L1 (a : Int) (b : Int) : (Int × (List Int)) → Option (Ctl (List Int) (Int × (List Int)))
  | (i10, mpdata11) => (if (decide (i10 < b)) then ((loopN (slices_insertionSortOrdered_int_L2 a) fuel (i10, mpdata11)).bind fun mpdata17 => (some (.go ((IntKind.wrap .i64 (i10 + 1)), mpdata17)))) else (early (some mpdata11)))

def slices_insertionSortOrdered_int (data : (List Int)) (a : Int) (b : Int) : Option (List Int) :=
  ((loopN (slices_insertionSortOrdered_int_L1 a b) fuel ((IntKind.wrap .i64 (a + 1)), data)).bind fun mpdata => (some mpdata))

def slices_pdqsortOrdered_int_L1 (a0 : (List Int)) (a1 : Int) (a2 : Int) (a3 : Int) : Unit → Option (Ctl (List Int) Unit)
  | () => (if (decide ((IntKind.wrap .i64 (a2 - a1)) ≤ 12)) then ((slices_insertionSortOrdered_int a0 a1 a2).bind fun y => ((chkl a0.length y).bind fun () => (early (some y)))) else (if (a3 == 0) then none else none))

def slices_pdqsortOrdered_int (a0 : (List Int)) (a1 : Int) (a2 : Int) (a3 : Int) : Option (List Int) :=
  loopN (slices_pdqsortOrdered_int_L1 a0 a1 a2 a3) fuel ()

def slices_Sort_Lint_int (x : (List Int)) : Option (List Int) :=
  ((math_bits_Len (IntKind.wrap .u64 (x.length : Int))).bind fun y => ((slices_pdqsortOrdered_int x 0 (x.length : Int) y).bind fun y1 => ((chkl x.length y1).bind fun () => (some y1))))

def slices_Compact_Lint_int_L2 (o : Nat) (k20 : Nat) : (Int × Int × (List Int)) → Option (Ctl (Int × (List Int)) (Int × Int × (List Int)))
  | (k38, k239, mpvs40) => (if (decide (k239 < (k20 : Int))) then (((idxP mpvs40 o k20 k239).bind fun x56 => ((idxP mpvs40 o k20 (IntKind.wrap .i64 (k239 - 1))).bind fun x57 => (if (x56 != x57) then ((idx mpvs40 k38).bind fun x61 => ((updL mpvs40 k38 x56).bind fun m => (some ((IntKind.wrap .i64 (k38 + 1)), m)))) else (some (k38, mpvs40))))).bind fun (k48, mpvs49) => (some (.go (k48, (IntKind.wrap .i64 (k239 + 1)), mpvs49)))) else (early (some (k38, mpvs40))))

def slices_Compact_Lint_int_L1 (vs : (List Int)) : Int → Option (Ctl (Ctl (List Int) Unit) Int)
  | k10 => (if (decide (k10 < (vs.length : Int))) then ((idx vs k10).bind fun x => ((idx vs (IntKind.wrap .i64 (k10 - 1))).bind fun x18 => (if (x == x18) then ((slcH vs.length k10 ((vs.length : Nat) : Int)).bind fun (o, k20) => ((loopN (slices_Compact_Lint_int_L2 o k20) fuel (k10, 1, vs)).bind fun (k21, mpvs) => ((slcH vs.length k21 ((vs.length : Nat) : Int)).bind fun (o66, k67) => ((slcH vs.length 0 k21).bind fun (o73, k74) => (early (early (some ((fillL mpvs o66 k67 0).take k74)))))))) else (some (.go (IntKind.wrap .i64 (k10 + 1))))))) else (early (some (.go ()))))

def slices_Compact_Lint_int (vs : (List Int)) : Option (List Int) :=
  (if (decide ((vs.length : Int) < 2)) then (some vs) else (kont (loopN (slices_Compact_Lint_int_L1 vs) fuel 1) fun () => (some vs)))

def conf_Of (l : (List Int)) : Option (List Int) :=
  ((slices_Clone_Lint_int l).bind fun y => ((slices_DeleteFunc_Lint_int y (fun z0 => conf_Of_1 z0)).bind fun y1 => ((slices_Sort_Lint_int y1).bind fun y7 => ((chkl y1.length y7).bind fun () => ((slices_Compact_Lint_int y7).bind fun y13 => (some y13))))))

def conf_With (l : (List Int)) (n : Int) : Option (List Int) :=
  ((slices_Clone_Lint_int l).bind fun y => ((app 8 y ([n] : (List Int))).bind fun m => ((conf_Of m).bind fun y6 => (some y6))))

def conf_Without_1 (x : Int) (a1 : Int) : Option Bool :=
  (some (x == a1))

def conf_Without (l : (List Int)) (n : Int) : Option (List Int) :=
  ((conf_Of l).bind fun y => ((slices_DeleteFunc_Lint_int y (fun z0 => conf_Without_1 z0 n)).bind fun y7 => (some y7)))

def rlog_tail_Conf_L1 (t : Rlog_tail) (i : Int) : ((List Int) × Int) → Option (Ctl (List Int) ((List Int) × Int))
  | (out26, t2027) => (if (decide (t2027 < (t.l.length : Int))) then (((idx t.l t2027).bind fun x => ((if (decide (x.Index > i)) then (some true) else (if (x.Kind != 2) then (some true) else ((entry_Right x).bind fun y63 => (some (!y63))))).bind fun t37 => (if t37 then (some out26) else ((idx x.Data 0).bind fun x66 => ((idx x.Data 1).bind fun x67 => (if (x67 == 1) then ((conf_With out26 (IntKind.wrap .i64 x66)).bind fun y69 => (some y69)) else ((conf_Without out26 (IntKind.wrap .i64 x66)).bind fun y71 => (some y71)))))))).bind fun out34 => (some (.go (out34, (IntKind.wrap .i64 (t2027 + 1)))))) else (early (some out26)))

def rlog_tail_Conf (t : Rlog_tail) (i : Int) : Option (List Int) :=
  ((slices_Clone_Lint_int t.base.Conf).bind fun y => ((loopN (rlog_tail_Conf_L1 t i) fuel (y, 0)).bind fun out => (some out)))

def slices_Clone_Lapi_Entry_api_Entry (vs : (List Api_Entry)) : Option (List Api_Entry) :=
  ((app 48 ([] : (List Api_Entry)) vs).bind fun m => (some m))

def rlog_Log_Compact (vg : Rlog_Log) (i : Int) (data : (List Int)) : Option (Bool × Rlog_Log) :=
  ((if (decide (i ≤ vg.tail.base.Index)) then (some true) else ((rlog_tail_Last vg.tail).bind fun y => (some (decide (i > y))))).bind fun t23 => (if t23 then (some (false, vg)) else ((rlog_tail_Term vg.tail i).bind fun y39 => ((rlog_tail_Conf vg.tail i).bind fun y41 => ((slices_Clone_Lbyte_byte data).bind fun y43 => ((slc vg.tail.l (IntKind.wrap .i64 (i - vg.tail.base.Index)) (vg.tail.l.length : Int)).bind fun m => ((slices_Clone_Lapi_Entry_api_Entry m).bind fun y76 => (some (true, (Rlog_Log.mk (Rlog_tail.mk (Api_Base.mk i y39 y41 y43) y76)))))))))))

def rlog_tail_Base (t : Rlog_tail) : Option Api_Base :=
  ((rlog_under t.base).bind fun y => (some y))

def mementolaw9_known : Option Bool :=
  ((rlog_New (Api_Base.mk 0 0 ([0] : (List Int)) ([] : (List Int))) ([] : (List Api_Entry))).bind fun y => ((rlog_Log_Add y 1 1 ([97] : (List Int))).bind fun (y10, y11) => ((rlog_Log_Follow y11 0 0 ([(Api_Entry.mk 1 2 0 ([] : (List Int))), (Api_Entry.mk 2 2 0 ([] : (List Int)))] : (List Api_Entry))).bind fun (y27, y28, y29, y30) => ((rlog_Log_Follow y30 2 1 ([] : (List Api_Entry))).bind fun (y36, y37, y38, y39) => ((if (y10.Index == 1) then (if y29 then (if ((y27.length : Int) == 2) then (if (y28 == 2) then (if (!y38) then ((rlog_tail_Last y39.tail).bind fun y53 => (if (y53 == 2) then ((rlog_tail_Term y39.tail 1).bind fun y56 => (if (y56 == 2) then ((rlog_tail_Term y39.tail 3).bind fun y59 => (if (y59 == (-1)) then ((rlog_tail_Term y39.tail 0).bind fun y62 => (if (y62 == 0) then ((rlog_tail_From y39.tail 2 9).bind fun y65 => (if ((y65.length : Int) == 1) then ((rlog_tail_Conf y39.tail 2).bind fun y68 => (if ((y68.length : Int) == 1) then ((rlog_Log_Compact y39 1 ([] : (List Int))).bind fun (y71, y72) => (if y71 then ((rlog_tail_Base y72.tail).bind fun y79 => (some ((y79.Index == 1), y72.tail.base, y72.tail.l))) else (some (false, y72.tail.base, y72.tail.l)))) else (some (false, y39.tail.base, y39.tail.l)))) else (some (false, y39.tail.base, y39.tail.l)))) else (some (false, y39.tail.base, y39.tail.l)))) else (some (false, y39.tail.base, y39.tail.l)))) else (some (false, y39.tail.base, y39.tail.l)))) else (some (false, y39.tail.base, y39.tail.l)))) else (some (false, y39.tail.base, y39.tail.l))) else (some (false, y39.tail.base, y39.tail.l))) else (some (false, y39.tail.base, y39.tail.l))) else (some (false, y39.tail.base, y39.tail.l))) else (some (false, y39.tail.base, y39.tail.l))).bind fun (t0, me_tail_base, me_tail_l) => (some t0))))))

def mementoseat_Entries_L1 (a0 : Int) (a1 : (List Int)) : ((List Api_Entry) × Int × Int) → Option (Ctl (List Api_Entry) ((List Api_Entry) × Int × Int))
  | (t59, t611, t712) => (if (decide (t712 < (a1.length : Int))) then ((idx a1 t712).bind fun x => ((if ((Int.tmod (IntKind.wrap .i64 (IntKind.wrap .u8 (Int.tdiv x 5))) 2) == 1) then (some ([x, (IntKind.wrap .u8 t712)] : (List Int))) else (some ([] : (List Int)))).bind fun me_Data => ((if (decide (x > 230)) then (some (2, ([(Int.tmod x 5), (Int.tmod (IntKind.wrap .u8 (Int.tdiv x 5)) 2)] : (List Int)))) else (some ((Int.tmod (IntKind.wrap .i64 (IntKind.wrap .u8 (Int.tdiv x 5))) 2), me_Data))).bind fun (me_Kind, me_Data38) => ((app 48 t59 ([(Api_Entry.mk (IntKind.wrap .i64 (a0 + t712)) (IntKind.wrap .i64 (t611 + (IntKind.wrap .i64 (IntKind.wrap .u8 (Int.tdiv (Int.tmod x 5) 4))))) me_Kind me_Data38)] : (List Api_Entry))).bind fun m => (some (.go (m, (IntKind.wrap .i64 (t611 + (IntKind.wrap .i64 (IntKind.wrap .u8 (Int.tdiv (Int.tmod x 5) 4))))), (IntKind.wrap .i64 (t712 + 1))))))))) else (early (some t59)))

def mementoseat_Entries (a0 : Int) (a1 : (List Int)) : Option (List Api_Entry) :=
  ((loopN (mementoseat_Entries_L1 a0 a1) fuel (([] : (List Api_Entry)), 1, 0)).bind fun t5 => (some t5))

def mementoref6_NewLog_L1 (b : Api_Base) (l : (List Api_Entry)) : (Int × (List Api_Entry)) → Option (Ctl (List Api_Entry) (Int × (List Api_Entry)))
  | (i25, me2_L26) => ((if (decide (i25 < (l.length : Int))) then ((idx l i25).bind fun x => (some (x.Index == (IntKind.wrap .i64 ((IntKind.wrap .i64 (b.Index + 1)) + i25))))) else (some false)).bind fun t26 => (if t26 then ((idx l i25).bind fun x42 => ((app 48 me2_L26 ([x42] : (List Api_Entry))).bind fun m => (some (.go ((IntKind.wrap .i64 (i25 + 1)), m))))) else (early (some me2_L26))))

def mementoref6_NewLog (b : Api_Base) (l : (List Api_Entry)) : Option Mementoref6_Log :=
  ((loopN (mementoref6_NewLog_L1 b l) fuel (0, ([] : (List Api_Entry)))).bind fun me2_L => (some (Mementoref6_Log.mk b me2_L)))

def mementoref6_Log_From_L1 (vg : Mementoref6_Log) (i : Int) (n : Int) : ((List Api_Entry) × Int) → Option (Ctl (List Api_Entry) ((List Api_Entry) × Int))
  | (out13, k15) => ((if (decide (k15 < (vg.L.length : Int))) then (some (decide ((out13.length : Int) < n))) else (some false)).bind fun t21 => (if t21 then (((idx vg.L k15).bind fun x => (if (decide (x.Index ≥ i)) then ((app 48 out13 ([x] : (List Api_Entry))).bind fun m => (some m)) else (some out13))).bind fun out28 => (some (.go (out28, (IntKind.wrap .i64 (k15 + 1)))))) else (early (some out13))))

def mementoref6_Log_From (vg : Mementoref6_Log) (i : Int) (n : Int) : Option (List Api_Entry) :=
  ((loopN (mementoref6_Log_From_L1 vg i n) fuel (([] : (List Api_Entry)), 0)).bind fun out => (some out))

def mementoref6_Log_Last (vg : Mementoref6_Log) : Option Int :=
  (some (IntKind.wrap .i64 (vg.Base.Index + (vg.L.length : Int))))

def mementoref6_Log_Term (vg : Mementoref6_Log) (i : Int) : Option Int :=
  (if (i == vg.Base.Index) then (some vg.Base.Term) else ((if (decide (i > vg.Base.Index)) then ((mementoref6_Log_Last vg).bind fun y => (some (decide (i ≤ y)))) else (some false)).bind fun t29 => (if t29 then ((idx vg.L (IntKind.wrap .i64 ((IntKind.wrap .i64 (i - vg.Base.Index)) - 1))).bind fun x => (some x.Term)) else (some (-1)))))

def mementoref6_SameInts_L1 (a : (List Int)) (b : (List Int)) : Int → Option (Ctl (Ctl Bool Unit) Int)
  | i5 => (if (decide (i5 < (a.length : Int))) then ((idx a i5).bind fun x => ((idx b i5).bind fun x11 => (if (x != x11) then (early (early (some false))) else (some (.go (IntKind.wrap .i64 (i5 + 1))))))) else (early (some (.go ()))))

def mementoref6_SameInts (a : (List Int)) (b : (List Int)) : Option Bool :=
  (if ((a.length : Int) != (b.length : Int)) then (some false) else (kont (loopN (mementoref6_SameInts_L1 a b) fuel 0) fun () => (some true)))

def mementohelp_Ints (a : (List Int)) (b : (List Int)) : Option Bool :=
  ((mementoref6_SameInts a b).bind fun y => (some y))

def mementoref6_SameEntry (a : Api_Entry) (b : Api_Entry) : Option Bool :=
  ((if (a.Index == b.Index) then (if (a.Term == b.Term) then (if (a.Kind == b.Kind) then (some ((strOf a.Data) == (strOf b.Data))) else (some false)) else (some false)) else (some false)).bind fun t4 => (some t4))

def mementoref6_SameEntries_L1 (a : (List Api_Entry)) (b : (List Api_Entry)) : Int → Option (Ctl (Ctl Bool Unit) Int)
  | i5 => (if (decide (i5 < (a.length : Int))) then ((idx a i5).bind fun x => ((idx b i5).bind fun x11 => ((mementoref6_SameEntry x x11).bind fun y => (if (!y) then (early (early (some false))) else (some (.go (IntKind.wrap .i64 (i5 + 1)))))))) else (early (some (.go ()))))

def mementoref6_SameEntries (a : (List Api_Entry)) (b : (List Api_Entry)) : Option Bool :=
  (if ((a.length : Int) != (b.length : Int)) then (some false) else (kont (loopN (mementoref6_SameEntries_L1 a b) fuel 0) fun () => (some true)))

def mementoref6_SameBase (a : Api_Base) (b : Api_Base) : Option Bool :=
  ((if (a.Index == b.Index) then (if (a.Term == b.Term) then ((mementoref6_SameInts a.Conf b.Conf).bind fun y => (if y then (some ((strOf a.Data) == (strOf b.Data))) else (some false))) else (some false)) else (some false)).bind fun t4 => (some t4))

def mementoref6_Has_L1 (l : (List Int)) (n : Int) : Int → Option (Ctl (Ctl Bool Unit) Int)
  | i5 => (if (decide (i5 < (l.length : Int))) then ((idx l i5).bind fun x => (if (x == n) then (early (early (some true))) else (some (.go (IntKind.wrap .i64 (i5 + 1)))))) else (early (some (.go ()))))

def mementoref6_Has (l : (List Int)) (n : Int) : Option Bool :=
  (kont (loopN (mementoref6_Has_L1 l n) fuel 0) fun () => (some false))

def mementoref6_Of_L1 (l : (List Int)) : ((List Int) × Int) → Option (Ctl (List Int) ((List Int) × Int))
  | (out9, n11) => (if (decide (n11 < 7)) then (((mementoref6_Has l n11).bind fun y => (if y then ((app 8 out9 ([n11] : (List Int))).bind fun m => (some m)) else (some out9))).bind fun out17 => (some (.go (out17, (IntKind.wrap .i64 (n11 + 1)))))) else (early (some out9)))

def mementoref6_Of (l : (List Int)) : Option (List Int) :=
  ((loopN (mementoref6_Of_L1 l) fuel (([] : (List Int)), 0)).bind fun out => (some out))

def mementoref6_With (l : (List Int)) (n : Int) : Option (List Int) :=
  ((app 8 ([] : (List Int)) l).bind fun m => ((app 8 m ([n] : (List Int))).bind fun m1 => ((mementoref6_Of m1).bind fun y => (some y))))

def mementoref6_Without_L1 (l : (List Int)) (n : Int) : ((List Int) × Int) → Option (Ctl (List Int) ((List Int) × Int))
  | (out9, i11) => (if (decide (i11 < (l.length : Int))) then (((idx l i11).bind fun x => (if (x != n) then ((app 8 out9 ([x] : (List Int))).bind fun m => (some m)) else (some out9))).bind fun out17 => (some (.go (out17, (IntKind.wrap .i64 (i11 + 1)))))) else (early (some out9)))

def mementoref6_Without (l : (List Int)) (n : Int) : Option (List Int) :=
  ((loopN (mementoref6_Without_L1 l n) fuel (([] : (List Int)), 0)).bind fun out => ((mementoref6_Of out).bind fun y => (some y)))

def mementoref6_change (l : (List Int)) (e : Api_Entry) : Option (List Int) :=
  ((if (e.Kind != 2) then (some true) else (some ((e.Data.length : Int) != 2))).bind fun t13 => (if t13 then (some l) else ((idx e.Data 1).bind fun x => (if (x == 1) then ((idx e.Data 0).bind fun x6 => ((mementoref6_With l (IntKind.wrap .i64 x6)).bind fun y => (some y))) else ((idx e.Data 0).bind fun x7 => ((mementoref6_Without l (IntKind.wrap .i64 x7)).bind fun y8 => (some y8)))))))

def mementoref6_Log_Conf_L1 (vg : Mementoref6_Log) (i : Int) : ((List Int) × Int) → Option (Ctl (List Int) ((List Int) × Int))
  | (l15, k16) => ((if (decide (k16 < (vg.L.length : Int))) then ((idx vg.L k16).bind fun x => (some (decide (x.Index ≤ i)))) else (some false)).bind fun t31 => (if t31 then ((idx vg.L k16).bind fun x25 => ((mementoref6_change l15 x25).bind fun y => (some (.go (y, (IntKind.wrap .i64 (k16 + 1))))))) else (early (some l15))))

def mementoref6_Log_Conf (vg : Mementoref6_Log) (i : Int) : Option (List Int) :=
  ((app 8 ([] : (List Int)) vg.Base.Conf).bind fun m => ((loopN (mementoref6_Log_Conf_L1 vg i) fuel (m, 0)).bind fun l => (some l)))

def mementolaw9_alike_L1 (a0 : Rlog_Log) (a1 : Mementoref6_Log) (a2 : Int) : Int → Option (Ctl (Ctl Bool Unit) Int)
  | t726 => ((mementoref6_Log_Last a1).bind fun y33 => (if (decide (t726 ≤ (IntKind.wrap .i64 (y33 + 2)))) then (((rlog_tail_Term a0.tail t726).bind fun y41 => ((mementoref6_Log_Term a1 t726).bind fun y43 => (if (y41 != y43) then (some true) else ((rlog_tail_Conf a0.tail t726).bind fun y46 => ((mementoref6_Log_Conf a1 t726).bind fun y48 => ((mementohelp_Ints y46 y48).bind fun y50 => (if (!y50) then (some true) else ((rlog_tail_From a0.tail t726 a2).bind fun y53 => ((mementoref6_Log_From a1 t726 a2).bind fun y55 => ((mementoref6_SameEntries y53 y55).bind fun y57 => (some (!y57)))))))))))).bind fun t86 => (if t86 then (early (early (some false))) else (some (.go (IntKind.wrap .i64 (t726 + 1)))))) else (early (some (.go ())))))

def mementolaw9_alike (a0 : Rlog_Log) (a1 : Mementoref6_Log) (a2 : Int) : Option Bool :=
  (((rlog_tail_Last a0.tail).bind fun y => ((mementoref6_Log_Last a1).bind fun y2 => (if (y != y2) then (some true) else ((rlog_tail_Base a0.tail).bind fun y4 => ((mementoref6_SameBase y4 a1.Base).bind fun y6 => (if (!y6) then (some true) else ((rlog_tail_From a0.tail 0 1000).bind fun y9 => ((mementoref6_SameEntries y9 a1.L).bind fun y11 => (some (!y11)))))))))).bind fun t38 => (if t38 then (some false) else (kont (loopN (mementolaw9_alike_L1 a0 a1 a2) fuel (IntKind.wrap .i64 (a1.Base.Index - 2))) fun () => (some true))))

def mementoref6_Log_Follow_L1 (a0 : Mementoref6_Log) (t1 : Int) (t3 : (List Api_Entry)) : Int → Option (Ctl (Ctl ((List Api_Entry) × Int × Bool × Mementoref6_Log) Unit) Int)
  | t1214 => (if (decide (t1214 < (t3.length : Int))) then ((mementoref6_Log_Term a0 (IntKind.wrap .i64 ((IntKind.wrap .i64 (t1 + 1)) + t1214))).bind fun y21 => ((idx t3 t1214).bind fun x => (if (y21 != x.Term) then ((slc a0.L 0 (IntKind.wrap .i64 ((IntKind.wrap .i64 (t1 + t1214)) - a0.Base.Index))).bind fun m24 => ((app 48 ([] : (List Api_Entry)) m24).bind fun m25 => ((slc t3 t1214 (t3.length : Int)).bind fun m30 => ((app 48 m25 m30).bind fun m31 => ((app 48 ([] : (List Api_Entry)) m30).bind fun m43 => (early (early (some (m43, (IntKind.wrap .i64 (t1 + (t3.length : Int))), true, (Mementoref6_Log.mk a0.Base m31)))))))))) else (some (.go (IntKind.wrap .i64 (t1214 + 1))))))) else (early (some (.go ()))))

def mementoref6_Log_Follow (a0 : Mementoref6_Log) (a1 : Int) (a2 : Int) (a3 : (List Api_Entry)) : Option ((List Api_Entry) × Int × Bool × Mementoref6_Log) :=
  (kont (if (decide (a1 < a0.Base.Index)) then (if (decide ((IntKind.wrap .i64 (a0.Base.Index - (maxI a1 (-1)))) ≥ (a3.length : Int))) then (early (some (([] : (List Api_Entry)), a0.Base.Index, true, a0))) else ((slc a3 (IntKind.wrap .i64 (a0.Base.Index - (maxI a1 (-1)))) (a3.length : Int)).bind fun m => (some (.go (a0.Base.Index, m))))) else ((mementoref6_Log_Term a0 a1).bind fun y => (if (y != a2) then (early (some (([] : (List Api_Entry)), 0, false, a0))) else (some (.go (a1, a3)))))) fun (t1, t3) => (kont (loopN (mementoref6_Log_Follow_L1 a0 t1 t3) fuel 0) fun () => (some (([] : (List Api_Entry)), (IntKind.wrap .i64 (t1 + (t3.length : Int))), true, a0))))

def mementoref6_Log_Add (vg : Mementoref6_Log) (term : Int) (kind : Int) (data : (List Int)) : Option (Api_Entry × Mementoref6_Log) :=
  ((mementoref6_Log_Last vg).bind fun y => ((app 1 ([] : (List Int)) data).bind fun m => ((app 48 ([] : (List Api_Entry)) vg.L).bind fun m28 => ((app 48 m28 ([(Api_Entry.mk (IntKind.wrap .i64 (y + 1)) term kind m)] : (List Api_Entry))).bind fun m42 => (some ((Api_Entry.mk (IntKind.wrap .i64 (y + 1)) term kind m), (Mementoref6_Log.mk vg.Base m42)))))))

def mementoref6_Log_Compact (vg : Mementoref6_Log) (i : Int) (data : (List Int)) : Option (Bool × Mementoref6_Log) :=
  ((if (decide (i ≤ vg.Base.Index)) then (some true) else ((mementoref6_Log_Last vg).bind fun y => (some (decide (i > y))))).bind fun t20 => (if t20 then (some (false, vg)) else ((mementoref6_Log_Term vg i).bind fun y1 => ((mementoref6_Log_Conf vg i).bind fun y3 => ((app 1 ([] : (List Int)) data).bind fun m => ((slc vg.L (IntKind.wrap .i64 (i - vg.Base.Index)) (vg.L.length : Int)).bind fun m23 => ((app 48 ([] : (List Api_Entry)) m23).bind fun m24 => (some (true, (Mementoref6_Log.mk (Api_Base.mk i y1 y3 m) m24))))))))))

def rlog_Log_Reset (vg : Rlog_Log) (b : Api_Base) : Option Rlog_Log :=
  ((rlog_under b).bind fun y => (some (Rlog_Log.mk (Rlog_tail.mk y ([] : (List Api_Entry))))))

def mementoref6_Log_Reset (vg : Mementoref6_Log) (b : Api_Base) : Option Mementoref6_Log :=
  (some (Mementoref6_Log.mk b ([] : (List Api_Entry))))

def mementolaw9_LogPlays_L2 (me49_Base83 : Api_Base) (me49_L84 : (List Api_Entry)) (x93 : Mementolaw9_Act) (y138 : (List Api_Entry)) : (Int × (List Api_Entry)) → Option (Ctl (List Api_Entry) (Int × (List Api_Entry)))
  | (t16180, me141181) => (if (decide (t16180 < (y138.length : Int))) then (((idx me141181 t16180).bind fun x203 => ((mementoref6_Log_Term (Mementoref6_Log.mk me49_Base83 me49_L84) x203.Index).bind fun y204 => ((if (decide (y204 ≥ 0)) then (if (decide ((Int.tmod x93.C 3) > 0)) then (some (decide (t16180 < (IntKind.wrap .i64 (Int.tmod x93.C 5))))) else (some false)) else (some false)).bind fun t183 => (if t183 then ((updL me141181 t16180 (Api_Entry.mk x203.Index y204 x203.Kind x203.Data)).bind fun m218 => (some m218)) else (some me141181))))).bind fun me141193 => (some (.go ((IntKind.wrap .i64 (t16180 + 1)), me141193)))) else (early (some me141181)))

def mementolaw9_LogPlays_L1 (a2 : (List Mementolaw9_Act)) : (Int × Api_Base × (List Api_Entry) × Api_Base × (List Api_Entry)) → Option (Ctl (Ctl Bool (Api_Base × (List Api_Entry) × Api_Base × (List Api_Entry))) (Int × Api_Base × (List Api_Entry) × Api_Base × (List Api_Entry)))
  | (t1180, me40_tail_base81, me40_tail_l82, me49_Base83, me49_L84) => (if (decide (t1180 < (a2.length : Int))) then ((idx a2 t1180).bind fun x93 => (if (decide ((x93.L.length : Int) > 6)) then (early (early (some true))) else (kont ((if ((Int.tmod x93.What 8) == 0) then (some ((Int.tmod x93.What 8) == 0)) else (if ((Int.tmod x93.What 8) == 1) then (some ((Int.tmod x93.What 8) == 1)) else (if ((Int.tmod x93.What 8) == 2) then (some ((Int.tmod x93.What 8) == 2)) else (some ((Int.tmod x93.What 8) == 3))))).bind fun t117 => (if t117 then ((remI (IntKind.wrap .i64 x93.A) (IntKind.wrap .i64 ((me49_L84.length : Int) + 4))).bind fun x135 => ((mementoref6_Log_Term (Mementoref6_Log.mk me49_Base83 me49_L84) (maxI (IntKind.wrap .i64 ((IntKind.wrap .i64 (me49_Base83.Index - 2)) + x135)) 0)).bind fun y136 => ((mementoseat_Entries (IntKind.wrap .i64 ((maxI (IntKind.wrap .i64 ((IntKind.wrap .i64 (me49_Base83.Index - 2)) + x135)) 0) + 1)) x93.L).bind fun y138 => ((loopN (mementolaw9_LogPlays_L2 me49_Base83 me49_L84 x93 y138) fuel (0, y138)).bind fun me141 => ((rlog_Log_Follow (Rlog_Log.mk (Rlog_tail.mk me40_tail_base81 me40_tail_l82)) (maxI (IntKind.wrap .i64 ((IntKind.wrap .i64 (me49_Base83.Index - 2)) + x135)) 0) (IntKind.wrap .i64 ((maxI y136 0) + (IntKind.wrap .i64 (Int.tdiv (IntKind.wrap .i64 (Int.tmod x93.B 6)) 5)))) me141).bind fun (y233, y234, y235, y236) => ((mementoref6_Log_Follow (Mementoref6_Log.mk me49_Base83 me49_L84) (maxI (IntKind.wrap .i64 ((IntKind.wrap .i64 (me49_Base83.Index - 2)) + x135)) 0) (IntKind.wrap .i64 ((maxI y136 0) + (IntKind.wrap .i64 (Int.tdiv (IntKind.wrap .i64 (Int.tmod x93.B 6)) 5)))) me141).bind fun (y244, y245, y246, y247) => ((if (y235 != y246) then (some true) else (if (y234 != y245) then (some true) else ((mementoref6_SameEntries y233 y244).bind fun y264 => (some (!y264))))).bind fun t220 => (if t220 then (early (early (early (some false)))) else (some (.go (y236.tail.base, y236.tail.l, y247.Base, y247.L))))))))))) else ((if ((Int.tmod x93.What 8) == 4) then (some ((Int.tmod x93.What 8) == 4)) else (some ((Int.tmod x93.What 8) == 5))).bind fun t221 => (if t221 then ((app 1 ([] : (List Int)) x93.L).bind fun m276 => ((if ((Int.tmod x93.B 4) == 0) then (some (([(Int.tmod x93.A 7), (Int.tmod x93.C 2)] : (List Int)), 2)) else (some (m276, 1))).bind fun (t24, t25) => ((rlog_Log_Add (Rlog_Log.mk (Rlog_tail.mk me40_tail_base81 me40_tail_l82)) (IntKind.wrap .i64 (Int.tmod x93.A 9)) t25 t24).bind fun (y301, y302) => ((mementoref6_Log_Add (Mementoref6_Log.mk me49_Base83 me49_L84) (IntKind.wrap .i64 (Int.tmod x93.A 9)) t25 t24).bind fun (y311, y312) => ((mementoref6_SameEntry y301 y311).bind fun y321 => (if (!y321) then (early (early (early (some false)))) else (some (.go (y302.tail.base, y302.tail.l, y312.Base, y312.L))))))))) else (if ((Int.tmod x93.What 8) == 6) then ((remI (IntKind.wrap .i64 x93.A) (IntKind.wrap .i64 ((me49_L84.length : Int) + 3))).bind fun x325 => ((rlog_Log_Compact (Rlog_Log.mk (Rlog_tail.mk me40_tail_base81 me40_tail_l82)) (IntKind.wrap .i64 ((IntKind.wrap .i64 (me49_Base83.Index - 1)) + x325)) x93.L).bind fun (y326, y327) => ((mementoref6_Log_Compact (Mementoref6_Log.mk me49_Base83 me49_L84) (IntKind.wrap .i64 ((IntKind.wrap .i64 (me49_Base83.Index - 1)) + x325)) x93.L).bind fun (y335, y336) => (if (y326 != y335) then (early (early (early (some false)))) else (some (.go (y327.tail.base, y327.tail.l, y336.Base, y336.L))))))) else (if ((Int.tmod x93.B 5) == 0) then ((mementoref6_Log_Last (Mementoref6_Log.mk me49_Base83 me49_L84)).bind fun y346 => ((rlog_Log_Reset (Rlog_Log.mk (Rlog_tail.mk me40_tail_base81 me40_tail_l82)) (Api_Base.mk (IntKind.wrap .i64 (y346 + (IntKind.wrap .i64 (Int.tmod x93.A 5)))) (IntKind.wrap .i64 x93.B) ([0, 2] : (List Int)) x93.L)).bind fun y368 => ((mementoref6_Log_Reset (Mementoref6_Log.mk me49_Base83 me49_L84) (Api_Base.mk (IntKind.wrap .i64 (y346 + (IntKind.wrap .i64 (Int.tmod x93.A 5)))) (IntKind.wrap .i64 x93.B) ([0, 2] : (List Int)) x93.L)).bind fun y377 => (some (.go (y368.tail.base, y368.tail.l, y377.Base, y377.L)))))) else (some (.go (me40_tail_base81, me40_tail_l82, me49_Base83, me49_L84))))))))) fun (me40_tail_base112, me40_tail_l113, me49_Base114, me49_L115) => ((mementolaw9_alike (Rlog_Log.mk (Rlog_tail.mk me40_tail_base112 me40_tail_l113)) (Mementoref6_Log.mk me49_Base114 me49_L115) (IntKind.wrap .i64 (Int.tmod x93.B 4))).bind fun y386 => (if (!y386) then (early (early (some false))) else (some (.go ((IntKind.wrap .i64 (t1180 + 1)), me40_tail_base112, me40_tail_l113, me49_Base114, me49_L115)))))))) else (early (some (.go (me40_tail_base81, me40_tail_l82, me49_Base83, me49_L84)))))

def mementolaw9_LogPlays (a0 : Int) (a1 : (List Int)) (a2 : (List Mementolaw9_Act)) : Option Bool :=
  ((mementolaw9_known).bind fun y => (if (!y) then (some false) else ((if (decide ((a1.length : Int) > 12)) then (some true) else (some (decide ((a2.length : Int) > 30)))).bind fun t37 => (if t37 then (some true) else ((mementoseat_Entries (IntKind.wrap .i64 ((IntKind.wrap .i64 (Int.tmod a0 20)) + 1)) a1).bind fun y7 => ((if (decide ((y7.length : Int) > 3)) then (some ((Int.tmod a0 5) == 0)) else (some false)).bind fun t58 => ((if t58 then ((idx y7 3).bind fun x => ((updL y7 3 (Api_Entry.mk (IntKind.wrap .i64 (x.Index + 1)) x.Term x.Kind x.Data)).bind fun m => (some m))) else (some y7)).bind fun me10 => ((rlog_New (Api_Base.mk (IntKind.wrap .i64 (Int.tmod a0 20)) (IntKind.wrap .i64 (Int.tmod a0 3)) ([0, 1, 2] : (List Int)) ([] : (List Int))) me10).bind fun y37 => ((mementoref6_NewLog (Api_Base.mk (IntKind.wrap .i64 (Int.tmod a0 20)) (IntKind.wrap .i64 (Int.tmod a0 3)) ([0, 1, 2] : (List Int)) ([] : (List Int))) me10).bind fun y46 => ((mementolaw9_alike y37 y46 2).bind fun y57 => (if (!y57) then (some false) else (kont (loopN (mementolaw9_LogPlays_L1 a2) fuel (0, y37.tail.base, y37.tail.l, y46.Base, y46.L)) fun (me40_tail_base, me40_tail_l, me49_Base, me49_L) => (some true)))))))))))))

end Go.Proofs.Ytbjleolchcajkaa.Am
