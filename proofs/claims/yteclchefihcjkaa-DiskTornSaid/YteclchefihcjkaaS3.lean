/- Functions, read as partial functions over lists. -/
import Derived.Test.YteclchefihcjkaaD1
namespace Go.Proofs.Yteclchefihcjkaa.Am
open Go
set_option linter.unusedVariables false
set_option maxRecDepth 10000

structure Pdisk_write where
  i : Int
  b : (List Int)
deriving Inhabited
def c_Pdisk_write (x : Pdisk_write) : List PV := [.sc (.int .i64 x.i), .sl 1 (x.b.map c_u8)]

structure Pdisk_Disk where
  n : Int
  sure : (List (Int × (List Int)))
  now : (List (Int × (List Int)))
  l : (List Pdisk_write)
  power : Int
deriving Inhabited


def pdisk_New (n : Int) : Option Pdisk_Disk :=
  (some (Pdisk_Disk.mk (minI (maxI n 0) 1048576) ([] : (List (Int × (List Int)))) ([] : (List (Int × (List Int)))) ([] : (List Pdisk_write)) (-1)))

def pdisk_Disk_dead (d : Pdisk_Disk) : Option (Bool × Pdisk_Disk) :=
  (if (decide (d.power > 0)) then (some (false, (Pdisk_Disk.mk d.n d.sure d.now d.l (IntKind.wrap .i64 (d.power - 1))))) else (some ((d.power == 0), d)))

def pdisk_Disk_Write (d : Pdisk_Disk) (i : Int) (b : (List Int)) : Option (Int × Pdisk_Disk) :=
  ((if (decide (i < 0)) then (some true) else (some (decide (i ≥ d.n)))).bind fun t8 => (if t8 then (some (25, d)) else (if (decide ((b.length : Int) > 64)) then (some (22, d)) else ((pdisk_Disk_dead d).bind fun (y, y121) => (if y then (some (26, y121)) else ((mks 1 0 64).bind fun m => ((if (decide ((y121.l.length : Int) < 64)) then ((app 32 y121.l ([(Pdisk_write.mk i (cpyL m 0 m.length b))] : (List Pdisk_write))).bind fun m214 => (some m214)) else (some y121.l)).bind fun mpd_l => (some (0, (Pdisk_Disk.mk y121.n y121.sure (mset y121.now i (cpyL m 0 m.length b)) mpd_l y121.power))))))))))

def pdisk_Disk_settle (d : Pdisk_Disk) : Option Pdisk_Disk :=
  (some (Pdisk_Disk.mk d.n (munion d.sure d.now) ([] : (List (Int × (List Int)))) ([] : (List Pdisk_write)) d.power))

def pdisk_Disk_Flush (d : Pdisk_Disk) : Option (Int × Pdisk_Disk) :=
  ((pdisk_Disk_dead d).bind fun (y, y1) => (if y then (some (26, y1)) else ((pdisk_Disk_settle y1).bind fun y2 => (some (0, y2)))))

def slices_Clone_Lbyte_byte (vs : (List Int)) : Option (List Int) :=
  ((app 1 ([] : (List Int)) vs).bind fun m => (some m))

def pdisk_sectors_get (vs : (List (Int × (List Int)))) (i : Int) : Option (List Int) :=
  (mcase (mget vs i) (fun b => ((chkE b).bind fun () => ((slices_Clone_Lbyte_byte b).bind fun y => (some y)))) ((mks 1 0 64).bind fun m => (some m)))

def pdisk_Disk_Read (d : Pdisk_Disk) (i : Int) : Option (List Int) :=
  ((if (decide (i < 0)) then (some true) else (some (decide (i ≥ d.n)))).bind fun t15 => (if t15 then (some ([] : (List Int))) else (mcase (mget d.now i) (fun b => ((chkE b).bind fun () => ((slices_Clone_Lbyte_byte b).bind fun y208 => (some y208)))) ((pdisk_sectors_get d.sure i).bind fun y => (some y)))))

def pdisk_Disk_Crash_L1 (a0 : Pdisk_Disk) (a1 : Int) : (Int × Int) → Option (Ctl Int (Int × Int))
  | (t765, t1866) => (if (decide (t1866 < (a0.l.length : Int))) then (((cnt .u64 t1866).bind fun n => (if ((Go.bits .and .u64 (shrI a1 n) 1) == 1) then (some t1866) else (some t765))).bind fun t775 => (some (.go (t775, (IntKind.wrap .i64 (t1866 + 1)))))) else (early (some t765)))

def pdisk_Disk_Crash_L2 (a0 : Pdisk_Disk) (a1 : Int) (a2 : Int) (t7 : Int) (m : (List Pdisk_write)) : (Int × (List (Int × (List Int)))) → Option (Ctl (List (Int × (List Int))) (Int × (List (Int × (List Int)))))
  | (t43135, mpa0_now136) => (if (decide (t43135 < (m.length : Int))) then (((idx m t43135).bind fun x => ((cnt .u64 t43135).bind fun n204 => (if ((Go.bits .and .u64 (shrI a1 n204) 1) == 0) then (some mpa0_now136) else ((slices_Clone_Lbyte_byte x.b).bind fun y => ((if (t43135 == t7) then (if (decide (a2 ≥ 0)) then (some (decide (a2 < 64))) else (some false)) else (some false)).bind fun t66 => ((if t66 then ((slcH y.length a2 ((y.length : Nat) : Int)).bind fun (o, k235) => ((pdisk_Disk_Read (Pdisk_Disk.mk a0.n a0.sure mpa0_now136 ([] : (List Pdisk_write)) (-1)) x.i).bind fun y237 => ((slc y237 a2 (y237.length : Int)).bind fun m239 => (some (cpyL y o k235 m239))))) else (some y)).bind fun me207 => (some (mset mpa0_now136 x.i me207)))))))).bind fun mpa0_now184 => (some (.go ((IntKind.wrap .i64 (t43135 + 1)), mpa0_now184)))) else (early (some mpa0_now136)))

def pdisk_Disk_Crash (a0 : Pdisk_Disk) (a1 : Int) (a2 : Int) : Option Pdisk_Disk :=
  ((loopN (pdisk_Disk_Crash_L1 a0 a1) fuel ((-1), 0)).bind fun t7 => ((slc a0.l 0 (IntKind.wrap .i64 (t7 + 1))).bind fun m => ((loopN (pdisk_Disk_Crash_L2 a0 a1 a2 t7 m) fuel (0, ([] : (List (Int × (List Int)))))).bind fun mpa0_now => ((pdisk_Disk_settle (Pdisk_Disk.mk a0.n a0.sure mpa0_now ([] : (List Pdisk_write)) (-1))).bind fun y393 => (some y393)))))

def pdisk_Disk_Power (d : Pdisk_Disk) (n : Int) : Option Pdisk_Disk :=
  (some (Pdisk_Disk.mk d.n d.sure d.now d.l (maxI n (-1))))

def pdisk_Disk_Dead (d : Pdisk_Disk) : Option Bool :=
  (some (d.power == 0))

def pdisk_Disk_Len (d : Pdisk_Disk) : Option Int :=
  (some d.n)

def mementolaw3_known : Option Bool :=
  ((pdisk_New 2).bind fun y => ((pdisk_Disk_Write y 0 ([97, 98, 99] : (List Int))).bind fun (y10, y11) => ((pdisk_Disk_Flush y11).bind fun (y16, y17) => ((pdisk_Disk_Write y17 0 ([120, 121, 122] : (List Int))).bind fun (y33, y34) => ((pdisk_Disk_Crash y34 1 2).bind fun y39 => ((pdisk_Disk_Write y39 2 ([] : (List Int))).bind fun (y44, y45) => ((pdisk_Disk_Read y45 0).bind fun y50 => ((pdisk_Disk_Power y45 1).bind fun y52 => ((pdisk_Disk_Flush y52).bind fun (y57, y58) => ((pdisk_Disk_Flush y58).bind fun (y63, y64) => ((if (y10 == 0) then (if (y16 == 0) then (if (y33 == 0) then (if (y44 == 25) then (if ((y50.length : Int) == 64) then ((slc y50 0 3).bind fun m => (if ((strOf m) == ([120, 121, 99] : List UInt8)) then (if (y57 == 0) then (if (y63 == 26) then ((pdisk_Disk_Dead y64).bind fun y79 => (if y79 then ((pdisk_Disk_Len y64).bind fun y82 => (some (y82 == 2))) else (some false))) else (some false)) else (some false)) else (some false))) else (some false)) else (some false)) else (some false)) else (some false)) else (some false)).bind fun t0 => (some t0))))))))))))

def mementolaw3_DiskPowers_L1 (a0 : Int) (a1 : (List Int)) : (Int × Pdisk_Disk) → Option (Ctl (Ctl Bool Pdisk_Disk) (Int × Pdisk_Disk))
  | (t719, me20) => (if (decide (t719 < (a1.length : Int))) then ((pdisk_Disk_Read me20 1).bind fun y27 => ((idx a1 t719).bind fun x => ((if ((Int.tmod x 3) == 0) then ((pdisk_Disk_Flush me20).bind fun (y36, y37) => (some (y36, y37))) else ((pdisk_Disk_Write me20 1 ([x, (IntKind.wrap .u8 t719)] : (List Int))).bind fun (y42, y43) => (some (y42, y43)))).bind fun (t9, me29) => ((if ((t9 == 26) != (decide (t719 ≥ (IntKind.wrap .i64 (Int.tmod a0 12))))) then (some true) else (if (t9 != 0) then ((pdisk_Disk_Read me29 1).bind fun y53 => (if ((strOf y53) != (strOf y27)) then (some true) else ((pdisk_Disk_Dead me29).bind fun y56 => (some (y56 != (decide ((IntKind.wrap .i64 (t719 + 1)) ≥ (IntKind.wrap .i64 (Int.tmod a0 12))))))))) else ((pdisk_Disk_Dead me29).bind fun y58 => (some (y58 != (decide ((IntKind.wrap .i64 (t719 + 1)) ≥ (IntKind.wrap .i64 (Int.tmod a0 12))))))))).bind fun t73 => (if t73 then (early (early (some false))) else (some (.go ((IntKind.wrap .i64 (t719 + 1)), me29)))))))) else (early (some (.go me20))))

def mementolaw3_DiskPowers (a0 : Int) (a1 : (List Int)) : Option Bool :=
  ((mementolaw3_known).bind fun y => (if (!y) then (some false) else (if (decide ((a1.length : Int) > 30)) then (some true) else ((pdisk_New 4).bind fun y2 => ((pdisk_Disk_Power y2 (IntKind.wrap .i64 (Int.tmod a0 12))).bind fun y4 => (kont (loopN (mementolaw3_DiskPowers_L1 a0 a1) fuel (0, y4)) fun me => ((pdisk_Disk_Crash me 0 0).bind fun y61 => (((pdisk_Disk_Dead y61).bind fun y72 => (if (!y72) then ((pdisk_Disk_Write y61 1 ([] : (List Int))).bind fun (y75, y76) => (if (y75 == 0) then ((pdisk_Disk_Write y76 9 ([] : (List Int))).bind fun (y82, y83) => (if (y82 == 25) then ((mks 1 0 65).bind fun m => ((pdisk_Disk_Write y83 0 m).bind fun (y89, y90) => (some ((y89 == 22), y90)))) else (some (false, y83)))) else (some (false, y76)))) else (some (false, y61)))).bind fun (t4, me66) => (some t4)))))))))

def mementolaw3_DiskLast_L1 (a0 : (List Int)) : (Int × Pdisk_Disk × (List Int)) → Option (Ctl (Pdisk_Disk × (List Int)) (Int × Pdisk_Disk × (List Int)))
  | (t527, me28, me529) => (if (decide (t527 < (a0.length : Int))) then (((idx a0 t527).bind fun x => ((pdisk_Disk_Write me28 (IntKind.wrap .i64 (Int.tmod x 5)) ([x] : (List Int))).bind fun (y47, y48) => ((idx me529 (Int.tmod x 5)).bind fun x54 => ((updL me529 (Int.tmod x 5) x).bind fun m => (if ((Int.tmod x 7) == 0) then ((pdisk_Disk_Flush y48).bind fun (y61, y62) => (some (y62, m))) else (some (y48, m))))))).bind fun (me38, me539) => (some (.go ((IntKind.wrap .i64 (t527 + 1)), me38, me539)))) else (early (some (me28, me529))))

def mementolaw3_DiskLast_L2 (me : Pdisk_Disk) (me5 : (List Int)) : Int → Option (Ctl (Ctl Bool Unit) Int)
  | t685 => (if (decide (t685 < 5)) then ((pdisk_Disk_Read me t685).bind fun y94 => ((if ((y94.length : Int) != 64) then (some true) else ((idx y94 0).bind fun x102 => ((idx me5 t685).bind fun x103 => (if (x102 != x103) then (some true) else ((idx y94 1).bind fun x105 => (some (x105 != 0))))))).bind fun t75 => (if t75 then (early (early (some false))) else (some (.go (IntKind.wrap .i64 (t685 + 1))))))) else (early (some (.go ()))))

def mementolaw3_DiskLast (a0 : (List Int)) : Option Bool :=
  ((mementolaw3_known).bind fun y => (if (!y) then (some false) else (if (decide ((a0.length : Int) > 60)) then (some true) else ((pdisk_New 5).bind fun y2 => ((loopN (mementolaw3_DiskLast_L1 a0) fuel (0, y2, (List.replicate 5 0))).bind fun (me, me5) => (kont (loopN (mementolaw3_DiskLast_L2 me me5) fuel 0) fun () => (((pdisk_Disk_Read me 5).bind fun y113 => (if ((y113.length : Int) == 0) then ((pdisk_Disk_Read me (-1)).bind fun y116 => (some ((y116.length : Int) == 0))) else (some false))).bind fun t2 => (some t2))))))))

def mementolaw3_DiskTorn_L1 (a0 : (List Int)) (a1 : (List Int)) (t1144 : Int) (y50 : (List Int)) : Int → Option (Ctl (Ctl Bool Unit) Int)
  | t1362 => (if (decide (t1362 < 64)) then ((if (decide (t1362 < (a0.length : Int))) then ((idx a0 t1362).bind fun x => (some x)) else (some 0)).bind fun t14 => ((if (decide (t1362 < (a1.length : Int))) then ((idx a1 t1362).bind fun x79 => (some x79)) else (some 0)).bind fun t15 => ((if (decide (t1362 < t1144)) then (some t15) else (some t14)).bind fun t1480 => ((if ((y50.length : Int) != 64) then (some true) else ((idx y50 t1362).bind fun x91 => (some (x91 != t1480)))).bind fun t87 => (if t87 then (early (early (some false))) else (some (.go (IntKind.wrap .i64 (t1362 + 1))))))))) else (early (some (.go ()))))

def mementolaw3_DiskTorn (a0 : (List Int)) (a1 : (List Int)) (a2 : Int) (a3 : Bool) : Option Bool :=
  ((mementolaw3_known).bind fun y => (if (!y) then (some false) else ((if (decide ((a0.length : Int) > 64)) then (some true) else (some (decide ((a1.length : Int) > 64)))).bind fun t25 => (if t25 then (some true) else ((pdisk_New 1).bind fun y2 => ((pdisk_Disk_Write y2 0 a0).bind fun (y6, y7) => ((pdisk_Disk_Flush y7).bind fun (y12, y13) => ((pdisk_Disk_Write y13 0 a1).bind fun (y18, y19) => ((if a3 then (some 1) else (some 0)).bind fun t10 => ((pdisk_Disk_Crash y19 t10 (IntKind.wrap .i64 a2)).bind fun y29 => ((if (decide ((IntKind.wrap .i64 a2) < 0)) then (some true) else (some (decide ((IntKind.wrap .i64 a2) > 64)))).bind fun t48 => ((if t48 then (some 64) else (some (IntKind.wrap .i64 a2))).bind fun t11 => ((if (!a3) then (some 0) else (some t11)).bind fun t1144 => ((pdisk_Disk_Read y29 0).bind fun y50 => (kont (loopN (mementolaw3_DiskTorn_L1 a0 a1 t1144 y50) fuel 0) fun () => (some true))))))))))))))))

end Go.Proofs.Yteclchefihcjkaa.Am
