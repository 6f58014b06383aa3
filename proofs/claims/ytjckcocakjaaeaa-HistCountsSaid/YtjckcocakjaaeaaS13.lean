/- Functions, read as partial functions over lists. -/
import Derived.Test.YtjckcocakjaaeaaD0
namespace Go.Proofs.Ytjckcocakjaaeaa.Am
open Go
set_option linter.unusedVariables false
set_option maxRecDepth 10000

structure Api_Version where
  Seq : Int
  Data : (List Int)
deriving Inhabited
def c_Api_Version (x : Api_Version) : List PV := [.sc (.int .i64 x.Seq), .sl 1 (x.Data.map c_u8)]

def ok_Api_Version (x : Api_Version) : Prop := Ik .i64 x.Seq ∧ (∀ y0 ∈ x.Data, Ik .u8 y0)

def slices_Clone_Lapi_Version_api_Version (vs : (List Api_Version)) : Option (List Api_Version) :=
  ((app 32 ([] : (List Api_Version)) vs).bind fun m => (some m))

def slices_Clone_Lbyte_byte (vs : (List Int)) : Option (List Int) :=
  ((app 1 ([] : (List Int)) vs).bind fun m => (some m))

def hist_copied_L1 (y : (List Api_Version)) : (Int × (List Api_Version)) → Option (Ctl (List Api_Version) (Int × (List Api_Version)))
  | (t914, me15) => (if (decide (t914 < (y.length : Int))) then ((idx me15 t914).bind fun x => ((slices_Clone_Lbyte_byte x.Data).bind fun y21 => ((updL me15 t914 (Api_Version.mk x.Seq y21)).bind fun m => (some (.go ((IntKind.wrap .i64 (t914 + 1)), m)))))) else (early (some me15)))

def hist_copied (l : (List Api_Version)) : Option (List Api_Version) :=
  ((slices_Clone_Lapi_Version_api_Version l).bind fun y => ((loopN (hist_copied_L1 y) fuel (0, y)).bind fun me => (some me)))

def hist_Add (l : (List Api_Version)) (seq : Int) (data : (List Int)) : Option (List Api_Version) :=
  ((hist_copied l).bind fun y => ((if (decide (seq < 1)) then (some true) else (if (decide (seq > 1099511627776)) then (some true) else (if (decide ((l.length : Int) > 0)) then ((idx l (IntKind.wrap .i64 ((l.length : Int) - 1))).bind fun x => (some (decide (seq ≤ x.Seq)))) else (some false)))).bind fun t31 => (if t31 then (some y) else ((slices_Clone_Lbyte_byte data).bind fun y7 => ((app 32 y ([(Api_Version.mk seq y7)] : (List Api_Version))).bind fun m => (some m))))))

def hist_behind_1 (i : Int) (a1 : (List Api_Version)) (a2 : Int) : Option Bool :=
  ((idx a1 i).bind fun x => (some (decide (x.Seq > a2))))

def sort_Search_L1 (f : (Int → Option Bool)) : (Int × Int) → Option (Ctl Int (Int × Int))
  | (i6, j7) => (if (decide (i6 < j7)) then ((f (IntKind.wrap .i64 (shrI (IntKind.wrap .u64 (IntKind.wrap .i64 (i6 + j7))) 1))).bind fun y => (if (!y) then (some (.go ((IntKind.wrap .i64 ((IntKind.wrap .i64 (shrI (IntKind.wrap .u64 (IntKind.wrap .i64 (i6 + j7))) 1)) + 1)), j7))) else (some (.go (i6, (IntKind.wrap .i64 (shrI (IntKind.wrap .u64 (IntKind.wrap .i64 (i6 + j7))) 1))))))) else (early (some i6)))

def sort_Search (n : Int) (f : (Int → Option Bool)) : Option Int :=
  ((loopN (sort_Search_L1 f) fuel (0, n)).bind fun i => (some i))

def hist_behind (l : (List Api_Version)) (t : Int) : Option Int :=
  ((sort_Search (l.length : Int) (fun z0 => hist_behind_1 z0 l t)).bind fun y => (some y))

def hist_At (l : (List Api_Version)) (t : Int) : Option ((List Int) × Bool) :=
  ((hist_behind l t).bind fun y => (if (y == 0) then (some (([] : (List Int)), false)) else ((idx l (IntKind.wrap .i64 (y - 1))).bind fun x => ((slices_Clone_Lbyte_byte x.Data).bind fun y1 => (some (y1, true))))))

def hist_Prune (l : (List Api_Version)) (floor : Int) : Option (List Api_Version) :=
  ((hist_behind l floor).bind fun y => ((slc l (maxI (IntKind.wrap .i64 (y - 1)) 0) (l.length : Int)).bind fun m => ((hist_copied m).bind fun y1 => (some y1))))

def hist_Changed (l : (List Api_Version)) (vfrom : Int) (to : Int) : Option Bool :=
  ((hist_behind l to).bind fun y => ((hist_behind l vfrom).bind fun y1 => (some (decide (y > y1)))))

def hist_Right_L1 (l : (List Api_Version)) : Int → Option (Ctl (Ctl Bool Unit) Int)
  | t75 => (if (decide (t75 < (l.length : Int))) then ((idx l t75).bind fun x => ((if (decide (x.Seq < 1)) then (some true) else (if (decide (x.Seq > 1099511627776)) then (some true) else (if (decide (t75 > 0)) then ((idx l (IntKind.wrap .i64 (t75 - 1))).bind fun x21 => (some (decide (x.Seq ≤ x21.Seq)))) else (some false)))).bind fun t34 => (if t34 then (early (early (some false))) else (some (.go (IntKind.wrap .i64 (t75 + 1))))))) else (early (some (.go ()))))

def hist_Right (l : (List Api_Version)) : Option Bool :=
  (kont (loopN (hist_Right_L1 l) fuel 0) fun () => (some true))

def mementolaw13_known : Option Bool :=
  ((hist_Add ([] : (List Api_Version)) 2 ([97] : (List Int))).bind fun y => ((hist_Add y 5 ([98] : (List Int))).bind fun y11 => ((hist_At y11 4).bind fun (y13, y14) => ((hist_At y11 1).bind fun (y16, y17) => ((if ((y11.length : Int) == 2) then (if y14 then (if ((strOf y13) == ([97] : List UInt8)) then (if (!y17) then ((hist_Prune y11 5).bind fun y24 => (if ((y24.length : Int) == 1) then ((hist_Prune y11 4).bind fun y27 => (if ((y27.length : Int) == 2) then ((hist_Changed y11 2 5).bind fun y30 => (if y30 then ((hist_Changed y11 5 9).bind fun y33 => (if (!y33) then ((hist_Right y11).bind fun y36 => (if y36 then ((hist_Right ([(Api_Version.mk 0 ([] : (List Int)))] : (List Api_Version))).bind fun y39 => (some (!y39))) else (some false))) else (some false))) else (some false))) else (some false))) else (some false))) else (some false)) else (some false)) else (some false)) else (some false)).bind fun t0 => (some t0))))))

def mementoref13_HistRight_L1 (l : (List Api_Version)) : Int → Option (Ctl (Ctl Bool Unit) Int)
  | i5 => (if (decide (i5 < (l.length : Int))) then (((idx l i5).bind fun x => (if (decide (x.Seq < 1)) then (some true) else (if (decide (x.Seq > 1099511627776)) then (some true) else (if (decide (i5 > 0)) then ((idx l (IntKind.wrap .i64 (i5 - 1))).bind fun x15 => (some (decide (x.Seq ≤ x15.Seq)))) else (some false))))).bind fun t41 => (if t41 then (early (early (some false))) else (some (.go (IntKind.wrap .i64 (i5 + 1)))))) else (early (some (.go ()))))

def mementoref13_HistRight (l : (List Api_Version)) : Option Bool :=
  (kont (loopN (mementoref13_HistRight_L1 l) fuel 0) fun () => (some true))

def mementolaw13_some_L1 (l : (List Int)) : ((List Api_Version) × Int × Int) → Option (Ctl (List Api_Version) ((List Api_Version) × Int × Int))
  | (out9, vs11, i12) => (if (decide (i12 < (l.length : Int))) then ((idx l i12).bind fun x => ((slc l i12 (IntKind.wrap .i64 (i12 + 1))).bind fun m => ((app 32 out9 ([(Api_Version.mk (IntKind.wrap .i64 (vs11 + (IntKind.wrap .i64 ((IntKind.wrap .i64 (Int.tmod x 4)) + 1)))) m)] : (List Api_Version))).bind fun m18 => (some (.go (m18, (IntKind.wrap .i64 (vs11 + (IntKind.wrap .i64 ((IntKind.wrap .i64 (Int.tmod x 4)) + 1)))), (IntKind.wrap .i64 (i12 + 1)))))))) else (early (some out9)))

def mementolaw13_some (l : (List Int)) : Option (List Api_Version) :=
  ((loopN (mementolaw13_some_L1 l) fuel (([] : (List Api_Version)), 0, 0)).bind fun out => (some out))

def mementoref13_At_L1 (l : (List Api_Version)) (t : Int) : Int → Option (Ctl (Ctl ((List Int) × Bool) Unit) Int)
  | i5 => (if (decide (i5 ≥ 0)) then ((idx l i5).bind fun x => (if (decide (x.Seq ≤ t)) then (early (early (some (x.Data, true)))) else (some (.go (IntKind.wrap .i64 (i5 - 1)))))) else (early (some (.go ()))))

def mementoref13_At (l : (List Api_Version)) (t : Int) : Option ((List Int) × Bool) :=
  (kont (loopN (mementoref13_At_L1 l t) fuel (IntKind.wrap .i64 ((l.length : Int) - 1))) fun () => (some (([] : (List Int)), false)))

def mementoref13_Add (l : (List Api_Version)) (seq : Int) (data : (List Int)) : Option (List Api_Version) :=
  ((if (decide (seq < 1)) then (some true) else (if (decide (seq > 1099511627776)) then (some true) else (if (decide ((l.length : Int) > 0)) then ((idx l (IntKind.wrap .i64 ((l.length : Int) - 1))).bind fun x => (some (decide (seq ≤ x.Seq)))) else (some false)))).bind fun t28 => (if t28 then (some l) else ((app 32 ([] : (List Api_Version)) l).bind fun m => ((app 1 ([] : (List Int)) data).bind fun m5 => ((app 32 m ([(Api_Version.mk seq m5)] : (List Api_Version))).bind fun m12 => (some m12))))))

def mementoref13_SameHist_L1 (a : (List Api_Version)) (b : (List Api_Version)) : Int → Option (Ctl (Ctl Bool Unit) Int)
  | i5 => (if (decide (i5 < (a.length : Int))) then (((idx a i5).bind fun x => ((idx b i5).bind fun x14 => (if (x.Seq != x14.Seq) then (some true) else (some ((strOf x.Data) != (strOf x14.Data)))))).bind fun t42 => (if t42 then (early (early (some false))) else (some (.go (IntKind.wrap .i64 (i5 + 1)))))) else (early (some (.go ()))))

def mementoref13_SameHist (a : (List Api_Version)) (b : (List Api_Version)) : Option Bool :=
  (if ((a.length : Int) != (b.length : Int)) then (some false) else (kont (loopN (mementoref13_SameHist_L1 a b) fuel 0) fun () => (some true)))

def mementoref13_Prune_L1 (l : (List Api_Version)) (floor : Int) : ((List Api_Version) × Int) → Option (Ctl (List Api_Version) ((List Api_Version) × Int))
  | (out9, i11) => (if (decide (i11 < (l.length : Int))) then (((if (decide ((IntKind.wrap .i64 (i11 + 1)) ≥ (l.length : Int))) then (some true) else ((idx l (IntKind.wrap .i64 (i11 + 1))).bind fun x => (some (decide (x.Seq > floor))))).bind fun t27 => (if t27 then ((idx l i11).bind fun x30 => ((app 32 out9 ([x30] : (List Api_Version))).bind fun m => (some m))) else (some out9))).bind fun out17 => (some (.go (out17, (IntKind.wrap .i64 (i11 + 1)))))) else (early (some out9)))

def mementoref13_Prune (l : (List Api_Version)) (floor : Int) : Option (List Api_Version) :=
  ((loopN (mementoref13_Prune_L1 l floor) fuel (([] : (List Api_Version)), 0)).bind fun out => (some out))

def mementoref13_Changed_L1 (l : (List Api_Version)) (vfrom : Int) (to : Int) : Int → Option (Ctl (Ctl Bool Unit) Int)
  | i5 => (if (decide (i5 < (l.length : Int))) then (((idx l i5).bind fun x => (if (decide (x.Seq > vfrom)) then (some (decide (x.Seq ≤ to))) else (some false))).bind fun t29 => (if t29 then (early (early (some true))) else (some (.go (IntKind.wrap .i64 (i5 + 1)))))) else (early (some (.go ()))))

def mementoref13_Changed (l : (List Api_Version)) (vfrom : Int) (to : Int) : Option Bool :=
  (kont (loopN (mementoref13_Changed_L1 l vfrom to) fuel 0) fun () => (some false))

def mementolaw13_HistTells_L1 (a2 : Int) (a3 : Int) (a4 : (List Int)) (a5 : Int) (y8 : (List Api_Version)) : Int → Option (Ctl (Ctl Bool Unit) Int)
  | t4817 => (if (decide (t4817 < (([a2, (IntKind.wrap .i64 a5), a3] : (List Int)).length : Int))) then ((idx ([a2, (IntKind.wrap .i64 a5), a3] : (List Int)) t4817).bind fun x => ((hist_At y8 x).bind fun (y23, y24) => ((mementoref13_At y8 x).bind fun (y26, y27) => ((if (y24 != y27) then (some true) else (if ((strOf y23) != (strOf y26)) then (some true) else ((hist_Add y8 x a4).bind fun y34 => ((mementoref13_Add y8 x a4).bind fun y36 => ((mementoref13_SameHist y34 y36).bind fun y38 => (if (!y38) then (some true) else ((hist_Prune y8 x).bind fun y41 => ((mementoref13_Prune y8 x).bind fun y43 => ((mementoref13_SameHist y41 y43).bind fun y45 => (if (!y45) then (some true) else ((hist_Changed y8 x a3).bind fun y48 => ((mementoref13_Changed y8 x a3).bind fun y50 => (if (y48 != y50) then (some true) else ((hist_Changed y8 (IntKind.wrap .i64 (Int.tmod a5 20)) x).bind fun y53 => ((mementoref13_Changed y8 (IntKind.wrap .i64 (Int.tmod a5 20)) x).bind fun y55 => (some (y53 != y55))))))))))))))))).bind fun t121 => (if t121 then (early (early (some false))) else (some (.go (IntKind.wrap .i64 (t4817 + 1))))))))) else (early (some (.go ()))))

def mementolaw13_HistTells (a0 : (List Api_Version)) (a1 : (List Int)) (a2 : Int) (a3 : Int) (a4 : (List Int)) (a5 : Int) : Option Bool :=
  ((mementolaw13_known).bind fun y => (if (!y) then (some false) else ((if (decide ((a0.length : Int) > 20)) then (some true) else (if (decide ((a1.length : Int) > 20)) then (some true) else (some (decide ((a4.length : Int) > 20))))).bind fun t34 => (if t34 then (some true) else ((hist_Right a0).bind fun y3 => ((mementoref13_HistRight a0).bind fun y5 => (if (y3 != y5) then (some false) else ((mementolaw13_some a1).bind fun y8 => (kont (loopN (mementolaw13_HistTells_L1 a2 a3 a4 a5 y8) fuel 0) fun () => ((hist_Right y8).bind fun y58 => (some y58)))))))))))

def mementolaw13_HistKeeps (a0 : (List Int)) (a1 : Int) (a2 : Int) : Option Bool :=
  ((mementolaw13_known).bind fun y => (if (!y) then (some false) else (if (decide ((a0.length : Int) > 20)) then (some true) else ((mementolaw13_some a0).bind fun y2 => ((hist_Prune y2 (IntKind.wrap .i64 a1)).bind fun y4 => ((hist_At y2 (IntKind.wrap .i64 ((IntKind.wrap .i64 a1) + (IntKind.wrap .i64 a2)))).bind fun (y6, y7) => ((hist_At y4 (IntKind.wrap .i64 ((IntKind.wrap .i64 a1) + (IntKind.wrap .i64 a2)))).bind fun (y9, y10) => ((if (y7 == y10) then (if ((strOf y6) == (strOf y9)) then ((hist_Right y4).bind fun y13 => (if y13 then (if (decide ((y4.length : Int) ≤ (y2.length : Int))) then ((hist_Changed y2 (IntKind.wrap .i64 ((IntKind.wrap .i64 a1) + (IntKind.wrap .i64 a2))) (IntKind.wrap .i64 ((IntKind.wrap .i64 ((IntKind.wrap .i64 a1) + (IntKind.wrap .i64 a2))) + 9))).bind fun y17 => ((hist_Changed y4 (IntKind.wrap .i64 ((IntKind.wrap .i64 a1) + (IntKind.wrap .i64 a2))) (IntKind.wrap .i64 ((IntKind.wrap .i64 ((IntKind.wrap .i64 a1) + (IntKind.wrap .i64 a2))) + 9))).bind fun y19 => (if (y17 == y19) then ((hist_Prune y4 (IntKind.wrap .i64 a1)).bind fun y22 => ((mementoref13_SameHist y22 y4).bind fun y24 => (some y24))) else (some false)))) else (some false)) else (some false))) else (some false)) else (some false)).bind fun t6 => (some t6)))))))))

def mementolaw13_HistOrder (a0 : (List Int)) (a1 : Int) (a2 : Int) (a3 : (List Int)) : Option Bool :=
  ((mementolaw13_known).bind fun y => (if (!y) then (some false) else ((if (decide ((a0.length : Int) > 20)) then (some true) else (some (decide ((a3.length : Int) > 20)))).bind fun t27 => (if t27 then (some true) else ((mementolaw13_some a0).bind fun y2 => ((if (decide ((y2.length : Int) > 0)) then ((idx y2 (IntKind.wrap .i64 ((y2.length : Int) - 1))).bind fun x => (some x.Seq)) else (some 0)).bind fun t10 => ((hist_Add y2 (IntKind.wrap .i64 a1) a3).bind fun y8 => (if (decide ((IntKind.wrap .i64 a1) ≤ t10)) then ((mementoref13_SameHist y2 y8).bind fun y11 => (some y11)) else ((hist_At y8 (IntKind.wrap .i64 ((IntKind.wrap .i64 a1) + (IntKind.wrap .i64 a2)))).bind fun (y13, y14) => ((hist_At y8 (IntKind.wrap .i64 ((IntKind.wrap .i64 a1) - 1))).bind fun (y16, y17) => ((hist_At y2 (IntKind.wrap .i64 ((IntKind.wrap .i64 a1) - 1))).bind fun (y19, y20) => ((if ((y8.length : Int) == (IntKind.wrap .i64 ((y2.length : Int) + 1))) then (if y14 then (if ((strOf y13) == (strOf a3)) then (if (y17 == y20) then (if ((strOf y16) == (strOf y19)) then ((hist_Changed y8 (IntKind.wrap .i64 ((IntKind.wrap .i64 a1) - 1)) (IntKind.wrap .i64 a1)).bind fun y30 => (some y30)) else (some false)) else (some false)) else (some false)) else (some false)) else (some false)).bind fun t8 => (some t8)))))))))))))

def mementolaw13_HistCounts_L1 (floor : Int) (y2 : (List Api_Version)) : (Int × Int × Int) → Option (Ctl (Int × Int) (Int × Int × Int))
  | (above10, below11, i12) => (if (decide (i12 < (y2.length : Int))) then (((idx y2 i12).bind fun x => (if (decide (x.Seq > (IntKind.wrap .i64 floor))) then (some ((IntKind.wrap .i64 (above10 + 1)), below11)) else (some (above10, 1)))).bind fun (above18, below19) => (some (.go (above18, below19, (IntKind.wrap .i64 (i12 + 1)))))) else (early (some (above10, below11))))

def mementolaw13_HistCounts (l : (List Int)) (floor : Int) : Option Bool :=
  ((mementolaw13_known).bind fun y => (if (!y) then (some false) else (if (decide ((l.length : Int) > 20)) then (some true) else ((mementolaw13_some l).bind fun y2 => ((loopN (mementolaw13_HistCounts_L1 floor y2) fuel (0, 0, 0)).bind fun (above, below) => ((hist_Prune y2 (IntKind.wrap .i64 floor)).bind fun y25 => ((if ((y25.length : Int) == (IntKind.wrap .i64 (above + below))) then ((slc y2 (IntKind.wrap .i64 ((y2.length : Int) - (y25.length : Int))) (y2.length : Int)).bind fun m => ((mementoref13_SameHist y25 m).bind fun y30 => (some y30))) else (some false)).bind fun t4 => (some t4))))))))

end Go.Proofs.Ytjckcocakjaaeaa.Am
