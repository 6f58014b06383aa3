/- Functions, read as partial functions over lists. -/
import Derived.Test.YtombabaadbobpaaD1
namespace Go.Proofs.Ytombabaadbobpaa.Am
open Go
set_option linter.unusedVariables false
set_option maxRecDepth 10000

structure Api_Flight where
  From : Int
  To : Int
  Bytes : (List Int)
deriving Inhabited
def c_Api_Flight (x : Api_Flight) : List PV := [.sc (.int .i64 x.From), .sc (.int .i64 x.To), .sl 1 (x.Bytes.map c_u8)]

structure Net_Pool where
  l : (List Api_Flight)
deriving Inhabited

structure Mementoref20_Pool where
  L : (List Api_Flight)
deriving Inhabited
def c_Mementoref20_Pool (x : Mementoref20_Pool) : List PV := [.sl 3 (x.L.map c_Api_Flight)]

structure Mementolaw19_Act where
  What : Int
  N : Int
  F : (List Api_Flight)
deriving Inhabited
def c_Mementolaw19_Act (x : Mementolaw19_Act) : List PV := [.sc (.int .u8 x.What), .sc (.int .i64 x.N), .sl 3 (x.F.map c_Api_Flight)]

def ok_Api_Flight (x : Api_Flight) : Prop := Ik .i64 x.From ∧ Ik .i64 x.To ∧ ((∀ y0 ∈ x.Bytes, Ik .u8 y0) ∧ x.Bytes.length * 1 ≤ 140737488351232)

def ok_Mementolaw19_Act (x : Mementolaw19_Act) : Prop := Ik .u8 x.What ∧ Ik .i64 x.N ∧ ((∀ y0 ∈ x.F, ok_Api_Flight y0) ∧ x.F.length * 40 ≤ 140737488351232)

def net_New : Option Net_Pool :=
  (some (Net_Pool.mk ([] : (List Api_Flight))))

def slices_Clone_Lbyte_byte (vs : (List Int)) : Option (List Int) :=
  ((app 1 ([] : (List Int)) vs).bind fun m => (some m))

def net_copied (f : Api_Flight) : Option Api_Flight :=
  ((slices_Clone_Lbyte_byte f.Bytes).bind fun y => (some (Api_Flight.mk f.From f.To y)))

def net_Pool_Send_L1 (l : (List Api_Flight)) : (Int × Net_Pool) → Option (Ctl Net_Pool (Int × Net_Pool))
  | (t88, mpp9) => (if (decide (t88 < (l.length : Int))) then ((idx l t88).bind fun x => ((net_copied x).bind fun y => ((app 40 mpp9.l ([y] : (List Api_Flight))).bind fun m => (some (.go ((IntKind.wrap .i64 (t88 + 1)), (Net_Pool.mk m))))))) else (early (some mpp9)))

def net_Pool_Send (p : Net_Pool) (l : (List Api_Flight)) : Option Net_Pool :=
  ((loopN (net_Pool_Send_L1 l) fuel (0, p)).bind fun mpp => (some mpp))

def net_Pool_has (p : Net_Pool) (n : Int) : Option Bool :=
  ((if (decide (n ≥ 0)) then (some (decide (n < (p.l.length : Int)))) else (some false)).bind fun t4 => (some t4))

def net_Pool_Twice (p : Net_Pool) (n : Int) : Option (Bool × Net_Pool) :=
  ((net_Pool_has p n).bind fun y => (if (!y) then (some (false, p)) else ((idx p.l n).bind fun x => ((net_Pool_Send p ([x] : (List Api_Flight))).bind fun y23 => (some (true, y23))))))

def slices_Delete_Lapi_Flight_api_Flight (vs : (List Api_Flight)) (i : Int) (j : Int) : Option (List Api_Flight) :=
  ((slcH vs.length i j).bind fun (o, k) => ((chkI2 j (vs.length : Int) vs.length).bind fun () => (if (i == j) then (some vs) else ((slcH vs.length 0 i).bind fun (o1, k2) => ((slcH vs.length j ((vs.length : Nat) : Int)).bind fun (o4, k5) => ((chkI (k2 + ((vs.drop o4).take k5).length) vs.length).bind fun () => ((slcH vs.length ((k2 + ((vs.drop o4).take k5).length) : Int) (vs.length : Int)).bind fun (o8, k9) => (some ((fillL (vs.take k2 ++ ((vs.drop o4).take k5) ++ vs.drop (k2 + ((vs.drop o4).take k5).length)) o8 k9 (Api_Flight.mk 0 0 ([] : (List Int)))).take (k2 + ((vs.drop o4).take k5).length))))))))))

def net_Pool_Take (p : Net_Pool) (n : Int) : Option (Api_Flight × Bool × Net_Pool) :=
  ((net_Pool_has p n).bind fun y => (if (!y) then (some ((Api_Flight.mk 0 0 ([] : (List Int))), false, p)) else ((idx p.l n).bind fun x => ((slices_Delete_Lapi_Flight_api_Flight p.l n (IntKind.wrap .i64 (n + 1))).bind fun y42 => (some (x, true, (Net_Pool.mk y42)))))))

def net_Pool_Len (p : Net_Pool) : Option Int :=
  (some (p.l.length : Int))

def net_Pool_All_L1 (p : Net_Pool) : ((List Api_Flight) × Int) → Option (Ctl (List Api_Flight) ((List Api_Flight) × Int))
  | (out31, t1133) => (if (decide (t1133 < (p.l.length : Int))) then ((idx p.l t1133).bind fun x => ((net_copied x).bind fun y => ((app 40 out31 ([y] : (List Api_Flight))).bind fun m => (some (.go (m, (IntKind.wrap .i64 (t1133 + 1)))))))) else (early (some out31)))

def net_Pool_All (p : Net_Pool) : Option (List Api_Flight) :=
  ((loopN (net_Pool_All_L1 p) fuel (([] : (List Api_Flight)), 0)).bind fun out => (some out))

def mementolaw19_known : Option Bool :=
  ((net_New).bind fun y => ((net_Pool_Send y ([(Api_Flight.mk 1 2 ([97] : (List Int))), (Api_Flight.mk 2 1 ([] : (List Int)))] : (List Api_Flight))).bind fun y10 => ((net_Pool_Twice y10 0).bind fun (y15, y16) => ((net_Pool_Take y16 0).bind fun (y21, y22, y23) => ((net_Pool_Take y23 9).bind fun (y39, y40, y41) => ((if y15 then (if y22 then (if (!y40) then (if (y21.To == 2) then ((net_Pool_Len y41).bind fun y69 => (if (y69 == 2) then ((net_Pool_All y41).bind fun y72 => ((idx y72 1).bind fun x => (if (x.From == 1) then ((net_Pool_Twice y41 (-1)).bind fun (y75, y76) => (some ((!y75), y76))) else (some (false, y41))))) else (some (false, y41)))) else (some (false, y41))) else (some (false, y41))) else (some (false, y41))) else (some (false, y41))).bind fun (t0, me) => (some t0)))))))

def mementoref20_Pool_Send (p : Mementoref20_Pool) (l : (List Api_Flight)) : Option Mementoref20_Pool :=
  ((app 40 ([] : (List Api_Flight)) p.L).bind fun m => ((app 40 m l).bind fun m2 => (some (Mementoref20_Pool.mk m2))))

def mementoref20_Pool_Take (p : Mementoref20_Pool) (n : Int) : Option (Api_Flight × Bool × Mementoref20_Pool) :=
  ((if (decide (n < 0)) then (some true) else (some (decide (n ≥ (p.L.length : Int))))).bind fun t17 => (if t17 then (some ((Api_Flight.mk 0 0 ([] : (List Int))), false, p)) else ((idx p.L n).bind fun x => ((slc p.L 0 n).bind fun m => ((app 40 ([] : (List Api_Flight)) m).bind fun m24 => ((slc p.L (IntKind.wrap .i64 (n + 1)) (p.L.length : Int)).bind fun m36 => ((app 40 m24 m36).bind fun m37 => (some (x, true, (Mementoref20_Pool.mk m37))))))))))

def mementoref20_SameFlights_L1 (a : (List Api_Flight)) (b : (List Api_Flight)) : Int → Option (Ctl (Ctl Bool Unit) Int)
  | i5 => (if (decide (i5 < (a.length : Int))) then (((idx a i5).bind fun x => ((idx b i5).bind fun x14 => (if (x.From != x14.From) then (some true) else (if (x.To != x14.To) then (some true) else (some ((strOf x.Bytes) != (strOf x14.Bytes))))))).bind fun t55 => (if t55 then (early (early (some false))) else (some (.go (IntKind.wrap .i64 (i5 + 1)))))) else (early (some (.go ()))))

def mementoref20_SameFlights (a : (List Api_Flight)) (b : (List Api_Flight)) : Option Bool :=
  (if ((a.length : Int) != (b.length : Int)) then (some false) else (kont (loopN (mementoref20_SameFlights_L1 a b) fuel 0) fun () => (some true)))

def mementoref20_Pool_Twice (p : Mementoref20_Pool) (n : Int) : Option (Bool × Mementoref20_Pool) :=
  ((if (decide (n < 0)) then (some true) else (some (decide (n ≥ (p.L.length : Int))))).bind fun t15 => (if t15 then (some (false, p)) else ((idx p.L n).bind fun x => ((mementoref20_Pool_Send p ([x] : (List Api_Flight))).bind fun y => (some (true, y))))))

def mementolaw19_NetPlays_L1 (a0 : (List Mementolaw19_Act)) : (Int × Net_Pool × Mementoref20_Pool) → Option (Ctl (Ctl Bool (Net_Pool × Mementoref20_Pool)) (Int × Net_Pool × Mementoref20_Pool))
  | (t524, me25, me526) => (if (decide (t524 < (a0.length : Int))) then ((idx a0 t524).bind fun x => (if (decide ((x.F.length : Int) > 5)) then (early (early (some true))) else ((if (decide ((Int.tmod t524 4) > 0)) then (some (Go.bits .and .i64 x.N 7)) else (some x.N)).bind fun me35_N => (kont ((if ((Int.tmod x.What 6) == 0) then (some ((Int.tmod x.What 6) == 0)) else (if ((Int.tmod x.What 6) == 1) then (some ((Int.tmod x.What 6) == 1)) else (some ((Int.tmod x.What 6) == 2)))).bind fun t52 => (if t52 then ((net_Pool_Send me25 x.F).bind fun y79 => ((mementoref20_Pool_Send me526 x.F).bind fun y86 => (some (.go (y79, y86))))) else ((if ((Int.tmod x.What 6) == 3) then (some ((Int.tmod x.What 6) == 3)) else (some ((Int.tmod x.What 6) == 4))).bind fun t64 => (if t64 then ((net_Pool_Take me25 me35_N).bind fun (y101, y102, y103) => ((mementoref20_Pool_Take me526 me35_N).bind fun (y127, y128, y129) => ((if (y102 != y128) then (some true) else ((mementoref20_SameFlights ([y101] : (List Api_Flight)) ([y127] : (List Api_Flight))).bind fun y165 => (some (!y165)))).bind fun t91 => (if t91 then (early (early (early (some false)))) else (some (.go (y103, y129))))))) else ((net_Pool_Twice me25 me35_N).bind fun (y168, y169) => ((mementoref20_Pool_Twice me526 me35_N).bind fun (y176, y177) => (if (y168 != y176) then (early (early (early (some false)))) else (some (.go (y169, y177)))))))))) fun (me61, me562) => (((net_Pool_Len me61).bind fun y191 => (if (y191 != (me562.L.length : Int)) then (some true) else ((net_Pool_All me61).bind fun y194 => ((mementoref20_SameFlights y194 me562.L).bind fun y196 => (some (!y196)))))).bind fun t109 => (if t109 then (early (early (some false))) else (some (.go ((IntKind.wrap .i64 (t524 + 1)), me61, me562))))))))) else (early (some (.go (me25, me526)))))

def mementolaw19_NetPlays (a0 : (List Mementolaw19_Act)) : Option Bool :=
  ((mementolaw19_known).bind fun y => (if (!y) then (some false) else (if (decide ((a0.length : Int) > 60)) then (some true) else ((net_New).bind fun y2 => (kont (loopN (mementolaw19_NetPlays_L1 a0) fuel (0, y2, (Mementoref20_Pool.mk ([] : (List Api_Flight))))) fun (me, me5) => (some true))))))

def mementolaw19_NetOrder_L1 (a0 : (List (List Int))) : ((List Api_Flight) × Int) → Option (Ctl (Ctl Bool (List Api_Flight)) ((List Api_Flight) × Int))
  | (t622, t724) => (if (decide (t724 < (a0.length : Int))) then ((idx a0 t724).bind fun x => (if (decide ((x.length : Int) > 40)) then (early (early (some true))) else ((app 40 t622 ([(Api_Flight.mk (Int.tmod t724 3) (Int.tmod (IntKind.wrap .i64 (t724 + 1)) 3) x)] : (List Api_Flight))).bind fun m => (some (.go (m, (IntKind.wrap .i64 (t724 + 1)))))))) else (early (some (.go t622))))

def mementolaw19_NetOrder_L2 (m64 : (List Api_Flight)) : (Int × Net_Pool) → Option (Ctl (Ctl Bool Net_Pool) (Int × Net_Pool))
  | (t988, me89) => (if (decide (t988 < (m64.length : Int))) then ((net_Pool_Take me89 0).bind fun (y98, y99, y100) => ((if (!y99) then (some true) else ((idx m64 t988).bind fun x128 => (if (y98.From != x128.From) then (some true) else (if (y98.To != x128.To) then (some true) else (some ((strOf y98.Bytes) != (strOf x128.Bytes))))))).bind fun t122 => (if t122 then (early (early (some false))) else (some (.go ((IntKind.wrap .i64 (t988 + 1)), y100)))))) else (early (some (.go me89))))

def mementolaw19_NetOrder (a0 : (List (List Int))) (a1 : Int) : Option Bool :=
  ((mementolaw19_known).bind fun y => (if (!y) then (some false) else ((if (decide ((a0.length : Int) > 20)) then (some true) else (some ((a0.length : Int) == 0))).bind fun t21 => (if t21 then (some true) else ((net_New).bind fun y2 => (kont (loopN (mementolaw19_NetOrder_L1 a0) fuel (([] : (List Api_Flight)), 0)) fun t6 => ((slc t6 0 (IntKind.wrap .i64 (Int.tdiv (t6.length : Int) 2))).bind fun m40 => ((net_Pool_Send y2 m40).bind fun y41 => ((slc t6 (IntKind.wrap .i64 (Int.tdiv (t6.length : Int) 2)) (t6.length : Int)).bind fun m47 => ((net_Pool_Send y41 m47).bind fun y48 => ((remI (IntKind.wrap .i64 a1) (t6.length : Int)).bind fun x54 => ((net_Pool_Twice y48 x54).bind fun (y55, y56) => (if (!y55) then (some false) else ((idx t6 x54).bind fun x63 => ((app 40 t6 ([x63] : (List Api_Flight))).bind fun m64 => (kont (loopN (mementolaw19_NetOrder_L2 m64) fuel (0, y56)) fun me => ((net_Pool_Len me).bind fun y132 => (some (y132 == 0)))))))))))))))))))

def mementolaw19_NetCounts_L1 (a0 : Int) : (Int × Net_Pool) → Option (Ctl Net_Pool (Int × Net_Pool))
  | (t714, me15) => (if (decide (t714 < (IntKind.wrap .i64 (Int.tmod a0 20)))) then ((net_Pool_Send me15 ([(Api_Flight.mk (Int.tmod t714 7) 0 ([(IntKind.wrap .u8 t714)] : (List Int)))] : (List Api_Flight))).bind fun y21 => (some (.go ((IntKind.wrap .i64 (t714 + 1)), y21)))) else (early (some me15)))

def mementolaw19_NetCounts_L2 (a1 : (List Int)) : (Int × Int × Net_Pool) → Option (Ctl (Ctl Bool Net_Pool) (Int × Int × Net_Pool))
  | (t844, t945, me46) => (if (decide (t945 < (a1.length : Int))) then ((idx a1 t945).bind fun x => ((if ((Int.tmod t945 2) == 0) then (some (Go.bits .and .i64 x 15)) else (some x)).bind fun t10 => ((net_Pool_Take me46 t10).bind fun (y58, y59, y60) => ((if (decide (t10 ≥ 0)) then (if (y59 != (decide (t10 < t844))) then (some true) else (if (!y59) then (some ((y58.Bytes.length : Int) != 0)) else (some false))) else (if (y59 != false) then (some true) else (if (!y59) then (some ((y58.Bytes.length : Int) != 0)) else (some false)))).bind fun t78 => (if t78 then (early (early (some false))) else ((if y59 then (some (IntKind.wrap .i64 (t844 - 1))) else (some t844)).bind fun t885 => (((net_Pool_Len y60).bind fun y97 => (if (y97 != t885) then (some true) else ((net_Pool_All y60).bind fun y100 => (some ((y100.length : Int) != t885))))).bind fun t92 => (if t92 then (early (early (some false))) else (some (.go (t885, (IntKind.wrap .i64 (t945 + 1)), y60))))))))))) else (early (some (.go me46))))

def mementolaw19_NetCounts (a0 : Int) (a1 : (List Int)) : Option Bool :=
  ((mementolaw19_known).bind fun y => (if (!y) then (some false) else (if (decide ((a1.length : Int) > 30)) then (some true) else ((net_New).bind fun y2 => ((loopN (mementolaw19_NetCounts_L1 a0) fuel (0, y2)).bind fun me => ((net_Pool_Send me ([] : (List Api_Flight))).bind fun y26 => (kont (loopN (mementolaw19_NetCounts_L2 a1) fuel ((IntKind.wrap .i64 (Int.tmod a0 20)), 0, y26)) fun me31 => (some true))))))))

end Go.Proofs.Ytombabaadbobpaa.Am
