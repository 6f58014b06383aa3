/- Functions, read as partial functions over lists. -/
import Derived.Test.YteclchefihcjkaaD1
namespace Go.Proofs.Yteclchefihcjkaa.Am
open Go
set_option linter.unusedVariables false
set_option maxRecDepth 10000

structure Pdisk_write where
  i : Int
  b : (List Int)
deriving Inhabited
def c_Pdisk_write (x : Pdisk_write) : List PV := [.sc (.int .i64 x.i), .sl 1 (x.b.map c_u8)]

structure Pdisk_Disk where
  n : Int
  sure : (List (Int × (List Int)))
  now : (List (Int × (List Int)))
  l : (List Pdisk_write)
  power : Int
deriving Inhabited

structure Slot_Slot where
  Count : Int
  Gen : Int
  Area : Int
deriving Inhabited
structure Mementoref3_Slot where
  Count : Int
  Gen : Int
  Area : Int
deriving Inhabited
structure Mementoref3_write where
  i : Int
  b : (List Int)
deriving Inhabited
def c_Mementoref3_write (x : Mementoref3_write) : List PV := [.sc (.int .i64 x.i), .sl 1 (x.b.map c_u8)]

structure Mementoref3_Disk where
  S : (List (List Int))
  l : (List Mementoref3_write)
  left : Int
deriving Inhabited
def pdisk_New (n : Int) : Option Pdisk_Disk :=
  (some (Pdisk_Disk.mk (minI (maxI n 0) 1048576) ([] : (List (Int × (List Int)))) ([] : (List (Int × (List Int)))) ([] : (List Pdisk_write)) (-1)))

def slices_Clone_Lbyte_byte (vs : (List Int)) : Option (List Int) :=
  ((app 1 ([] : (List Int)) vs).bind fun m => (some m))

def pdisk_sectors_get (vs : (List (Int × (List Int)))) (i : Int) : Option (List Int) :=
  (mcase (mget vs i) (fun b => ((chkE b).bind fun () => ((slices_Clone_Lbyte_byte b).bind fun y => (some y)))) ((mks 1 0 64).bind fun m => (some m)))

def pdisk_Disk_Read (d : Pdisk_Disk) (i : Int) : Option (List Int) :=
  ((if (decide (i < 0)) then (some true) else (some (decide (i ≥ d.n)))).bind fun t15 => (if t15 then (some ([] : (List Int))) else (mcase (mget d.now i) (fun b => ((chkE b).bind fun () => ((slices_Clone_Lbyte_byte b).bind fun y208 => (some y208)))) ((pdisk_sectors_get d.sure i).bind fun y => (some y)))))

def slot_read_L1 (m : (List Int)) : (Int × Int) → Option (Ctl Int (Int × Int))
  | (n6, t97) => (if (decide (t97 < (m.length : Int))) then ((idx m t97).bind fun x => ((cnt .u64 (IntKind.wrap .i64 (8 * t97))).bind fun n11 => (some (.go ((Go.bits .or .u64 n6 (shlI .u64 (IntKind.wrap .u64 x) n11)), (IntKind.wrap .i64 (t97 + 1))))))) else (early (some n6)))

def slot_read (b : (List Int)) : Option Int :=
  ((slc b 0 8).bind fun m => ((loopN (slot_read_L1 m) fuel (0, 0)).bind fun n => (some n)))

def slot_num_L1 (n : Int) (m : (List Int)) : (Int × (List Int)) → Option (Ctl (List Int) (Int × (List Int)))
  | (t814, me15) => (if (decide (t814 < (m.length : Int))) then ((cnt .u64 (IntKind.wrap .i64 (8 * t814))).bind fun n21 => ((idx me15 t814).bind fun x => ((updL me15 t814 (IntKind.wrap .u8 (shrI n n21))).bind fun m22 => (some (.go ((IntKind.wrap .i64 (t814 + 1)), m22)))))) else (early (some me15)))

def slot_num (n : Int) : Option (List Int) :=
  ((mks 1 0 8).bind fun m => ((loopN (slot_num_L1 n m) fuel (0, m)).bind fun me => (some me)))

def slot_Put (vs : Slot_Slot) : Option (List Int) :=
  ((mks 1 0 64).bind fun m => ((slot_num vs.Count).bind fun y => ((slcH m.length 8 ((m.length : Nat) : Int)).bind fun (o, k) => ((slot_num vs.Gen).bind fun y13 => ((slcH m.length 16 ((m.length : Nat) : Int)).bind fun (o20, k21) => ((slot_num (IntKind.wrap .u64 (maxI vs.Area 0))).bind fun y23 => ((slcH m.length (IntKind.wrap .i64 ((m.length : Int) - 8)) ((m.length : Nat) : Int)).bind fun (o30, k31) => (some (cpyL (cpyL (cpyL (cpyL m 0 m.length y) o k y13) o20 k21 y23) o30 k31 y)))))))))

def bytes_Equal (a : (List Int)) (b : (List Int)) : Option Bool :=
  (some ((strOf a) == (strOf b)))

def slot_Read (b : (List Int)) : Option (Slot_Slot × Bool) :=
  (if ((b.length : Int) != 64) then (some ((Slot_Slot.mk 0 0 0), false)) else ((slc b 16 (b.length : Int)).bind fun m => ((slot_read m).bind fun y => ((slot_read b).bind fun y4 => ((slc b 8 (b.length : Int)).bind fun m6 => ((slot_read m6).bind fun y7 => ((if (decide (y4 < 1)) then (some true) else (if (decide (y > 1)) then (some true) else ((slot_Put (Slot_Slot.mk y4 y7 (IntKind.wrap .i64 (minI y 2)))).bind fun y24 => ((bytes_Equal b y24).bind fun y26 => (some (!y26)))))).bind fun t35 => (if t35 then (some ((Slot_Slot.mk 0 0 0), false)) else (some ((Slot_Slot.mk y4 y7 (IntKind.wrap .i64 (minI y 2))), true))))))))))

def slot_Choose (d : Pdisk_Disk) : Option (Slot_Slot × Bool) :=
  ((pdisk_Disk_Read d 0).bind fun y => ((slot_Read y).bind fun (y2, y3) => ((pdisk_Disk_Read d 1).bind fun y19 => ((slot_Read y19).bind fun (y21, y22) => ((if y22 then (if (!y3) then (some true) else (some (decide (y21.Count > y2.Count)))) else (some false)).bind fun t34 => (if t34 then (some (y21, true)) else (some (y2, y3))))))))

def pdisk_Disk_dead (d : Pdisk_Disk) : Option (Bool × Pdisk_Disk) :=
  (if (decide (d.power > 0)) then (some (false, (Pdisk_Disk.mk d.n d.sure d.now d.l (IntKind.wrap .i64 (d.power - 1))))) else (some ((d.power == 0), d)))

def pdisk_Disk_Write (d : Pdisk_Disk) (i : Int) (b : (List Int)) : Option (Int × Pdisk_Disk) :=
  ((if (decide (i < 0)) then (some true) else (some (decide (i ≥ d.n)))).bind fun t8 => (if t8 then (some (25, d)) else (if (decide ((b.length : Int) > 64)) then (some (22, d)) else ((pdisk_Disk_dead d).bind fun (y, y121) => (if y then (some (26, y121)) else ((mks 1 0 64).bind fun m => ((if (decide ((y121.l.length : Int) < 64)) then ((app 32 y121.l ([(Pdisk_write.mk i (cpyL m 0 m.length b))] : (List Pdisk_write))).bind fun m214 => (some m214)) else (some y121.l)).bind fun mpd_l => (some (0, (Pdisk_Disk.mk y121.n y121.sure (mset y121.now i (cpyL m 0 m.length b)) mpd_l y121.power))))))))))

def pdisk_Disk_settle (d : Pdisk_Disk) : Option Pdisk_Disk :=
  (some (Pdisk_Disk.mk d.n (munion d.sure d.now) ([] : (List (Int × (List Int)))) ([] : (List Pdisk_write)) d.power))

def pdisk_Disk_Flush (d : Pdisk_Disk) : Option (Int × Pdisk_Disk) :=
  ((pdisk_Disk_dead d).bind fun (y, y1) => (if y then (some (26, y1)) else ((pdisk_Disk_settle y1).bind fun y2 => (some (0, y2)))))

def slot_Set (d : Pdisk_Disk) (vs : Slot_Slot) : Option (Int × Pdisk_Disk) :=
  ((slot_Put vs).bind fun y => ((pdisk_Disk_Write d (IntKind.wrap .i64 (Int.tmod vs.Count 2)) y).bind fun (y2, y3) => (if (y2 != 0) then (some (y2, y3)) else ((pdisk_Disk_Flush y3).bind fun (y9, y10) => (some (y9, y10))))))

def slot_Set_nil (vs : Slot_Slot) : Option Int :=
  (some 25)

def mementolaw4_known : Option Bool :=
  ((pdisk_New 4).bind fun y => ((slot_Choose y).bind fun (y1, y2) => ((slot_Set y (Slot_Slot.mk 4 3 1)).bind fun (y14, y15) => ((slot_Set y15 (Slot_Slot.mk 5 5 0)).bind fun (y21, y22) => ((slot_Choose y22).bind fun (y28, y29) => ((mks 1 0 64).bind fun m => ((slot_Read m).bind fun (y45, y46) => ((if (!y2) then (if (y14 == 0) then (if (y21 == 0) then (if y29 then (if ((y28.Count == 5) && ((y28.Gen == 5) && ((y28.Area == 0) && true))) then (if (!y46) then ((slot_Set_nil y28).bind fun y76 => (some (y76 == 25))) else (some false)) else (some false)) else (some false)) else (some false)) else (some false)) else (some false)).bind fun t0 => (some t0)))))))))

def mementolaw4_as (vs : Slot_Slot) : Option Mementoref3_Slot :=
  (some (Mementoref3_Slot.mk vs.Count vs.Gen vs.Area))

def mementoref3_eight_L1 (n : Int) : ((List Int) × Int) → Option (Ctl (List Int) ((List Int) × Int))
  | (b9, i11) => (if (decide (i11 < 8)) then ((cnt .u64 (IntKind.wrap .i64 (8 * i11))).bind fun n17 => ((app 1 b9 ([(IntKind.wrap .u8 (shrI n n17))] : (List Int))).bind fun m => (some (.go (m, (IntKind.wrap .i64 (i11 + 1))))))) else (early (some b9)))

def mementoref3_eight (n : Int) : Option (List Int) :=
  ((loopN (mementoref3_eight_L1 n) fuel (([] : (List Int)), 0)).bind fun b => (some b))

def mementoref3_PutSlot_L1 : (List Int) → Option (Ctl (List Int) (List Int))
  | b43 => (if (decide ((b43.length : Int) < 56)) then ((app 1 b43 ([0] : (List Int))).bind fun m51 => (some (.go m51))) else (early (some b43)))

def mementoref3_PutSlot (vs : Mementoref3_Slot) : Option (List Int) :=
  ((mementoref3_eight vs.Count).bind fun y => ((mementoref3_eight vs.Gen).bind fun y7 => ((app 1 y y7).bind fun m => ((mementoref3_eight (IntKind.wrap .u64 (maxI vs.Area 0))).bind fun y16 => ((app 1 m y16).bind fun m18 => ((loopN (mementoref3_PutSlot_L1) fuel m18).bind fun b => ((app 1 b y).bind fun m59 => (some m59))))))))

def mementoref3_number_L1 (b : (List Int)) : (Int × Int) → Option (Ctl Int (Int × Int))
  | (n6, i7) => (if (decide (i7 ≥ 0)) then ((idx b i7).bind fun x => (some (.go ((Go.bits .or .u64 (shlI .u64 n6 8) (IntKind.wrap .u64 x)), (IntKind.wrap .i64 (i7 - 1)))))) else (early (some n6)))

def mementoref3_number (b : (List Int)) : Option Int :=
  ((loopN (mementoref3_number_L1 b) fuel (0, 7)).bind fun n => (some n))

def mementoref3_ReadSlot (b : (List Int)) : Option (Mementoref3_Slot × Bool) :=
  (if ((b.length : Int) != 64) then (some ((Mementoref3_Slot.mk 0 0 0), false)) else ((mementoref3_number b).bind fun y => ((slc b 8 (b.length : Int)).bind fun m => ((mementoref3_number m).bind fun y4 => ((slc b 16 (b.length : Int)).bind fun m6 => ((mementoref3_number m6).bind fun y7 => ((if (y == 0) then (some true) else (if (decide ((IntKind.wrap .i64 (minI y7 2)) > 1)) then (some true) else ((mementoref3_PutSlot (Mementoref3_Slot.mk y y4 (IntKind.wrap .i64 (minI y7 2)))).bind fun y24 => (some ((strOf y24) != (strOf b)))))).bind fun t35 => (if t35 then (some ((Mementoref3_Slot.mk 0 0 0), false)) else (some ((Mementoref3_Slot.mk y y4 (IntKind.wrap .i64 (minI y7 2))), true))))))))))

def mementoref3_sector_L1 : (List Int) → Option (Ctl (List Int) (List Int))
  | vs15 => (if (decide ((vs15.length : Int) < 64)) then ((app 1 vs15 ([0] : (List Int))).bind fun m22 => (some (.go m22))) else (early (some vs15)))

def mementoref3_sector (b : (List Int)) : Option (List Int) :=
  ((app 1 ([] : (List Int)) b).bind fun m => ((loopN (mementoref3_sector_L1) fuel m).bind fun vs => (some vs)))

def mementoref3_NewDisk_L1 (n : Int) : (Int × (List (List Int))) → Option (Ctl (List (List Int)) (Int × (List (List Int))))
  | (i16, me_S17) => (if (decide (i16 < (minI n 1048576))) then ((mementoref3_sector ([] : (List Int))).bind fun y => ((app 24 me_S17 ([y] : (List (List Int)))).bind fun m => (some (.go ((IntKind.wrap .i64 (i16 + 1)), m))))) else (early (some me_S17)))

def mementoref3_NewDisk (n : Int) : Option Mementoref3_Disk :=
  ((loopN (mementoref3_NewDisk_L1 n) fuel (0, ([] : (List (List Int))))).bind fun me_S => (some (Mementoref3_Disk.mk me_S ([] : (List Mementoref3_write)) (-1))))

def mementoref3_Disk_spend (d : Mementoref3_Disk) : Option (Bool × Mementoref3_Disk) :=
  (if (decide (d.left < 0)) then (some (true, d)) else (if (d.left == 0) then (some (false, d)) else (some (true, (Mementoref3_Disk.mk d.S d.l (IntKind.wrap .i64 (d.left - 1)))))))

def mementoref3_Disk_Write (d : Mementoref3_Disk) (i : Int) (b : (List Int)) : Option (Int × Mementoref3_Disk) :=
  ((if (decide (i < 0)) then (some true) else (some (decide (i ≥ (d.S.length : Int))))).bind fun t17 => (if t17 then (some (25, d)) else (if (decide ((b.length : Int) > 64)) then (some (22, d)) else ((mementoref3_Disk_spend d).bind fun (y, y2) => (if (!y) then (some (26, y2)) else ((app 32 ([] : (List Mementoref3_write)) y2.l).bind fun m => ((mementoref3_sector b).bind fun y11 => ((app 32 m ([(Mementoref3_write.mk i y11)] : (List Mementoref3_write))).bind fun m13 => (some (0, (Mementoref3_Disk.mk y2.S m13 y2.left)))))))))))

def mementoref3_Disk_settle_L1 (n : Int) (l : (List Mementoref3_write)) : (Int × (List (List Int))) → Option (Ctl (List (List Int)) (Int × (List (List Int))))
  | (k19, me20) => (if (decide (k19 < n)) then ((idx l k19).bind fun x => ((idx me20 x.i).bind fun x27 => ((updL me20 x.i x.b).bind fun m28 => (some (.go ((IntKind.wrap .i64 (k19 + 1)), m28)))))) else (early (some me20)))

def mementoref3_Disk_settle (d : Mementoref3_Disk) (n : Int) (l : (List Mementoref3_write)) : Option Mementoref3_Disk :=
  ((app 24 ([] : (List (List Int))) d.S).bind fun m => ((loopN (mementoref3_Disk_settle_L1 n l) fuel (0, m)).bind fun me => (some (Mementoref3_Disk.mk me ([] : (List Mementoref3_write)) d.left))))

def mementoref3_Disk_Flush (d : Mementoref3_Disk) : Option (Int × Mementoref3_Disk) :=
  ((mementoref3_Disk_spend d).bind fun (y, y1) => (if (!y) then (some (26, y1)) else ((mementoref3_Disk_settle y1 (y1.l.length : Int) y1.l).bind fun y2 => (some (0, y2)))))

def mementoref3_Set (d : Mementoref3_Disk) (vs : Mementoref3_Slot) : Option (Int × Mementoref3_Disk) :=
  ((mementoref3_PutSlot (Mementoref3_Slot.mk vs.Count vs.Gen vs.Area)).bind fun y => ((mementoref3_Disk_Write d (IntKind.wrap .i64 (Int.tmod vs.Count 2)) y).bind fun (y2, y3) => (if (y2 != 0) then (some (y2, y3)) else ((mementoref3_Disk_Flush y3).bind fun (y9, y10) => (some (y9, y10))))))

def pdisk_Disk_Power (d : Pdisk_Disk) (n : Int) : Option Pdisk_Disk :=
  (some (Pdisk_Disk.mk d.n d.sure d.now d.l (maxI n (-1))))

def mementoref3_Disk_Power (d : Mementoref3_Disk) (n : Int) : Option Mementoref3_Disk :=
  (some (Mementoref3_Disk.mk d.S d.l (maxI n (-1))))

def pdisk_Disk_Crash_L1 (a0 : Pdisk_Disk) (a1 : Int) : (Int × Int) → Option (Ctl Int (Int × Int))
  | (t765, t1866) => (if (decide (t1866 < (a0.l.length : Int))) then (((cnt .u64 t1866).bind fun n => (if ((Go.bits .and .u64 (shrI a1 n) 1) == 1) then (some t1866) else (some t765))).bind fun t775 => (some (.go (t775, (IntKind.wrap .i64 (t1866 + 1)))))) else (early (some t765)))

def pdisk_Disk_Crash_L2 (a0 : Pdisk_Disk) (a1 : Int) (a2 : Int) (t7 : Int) (m : (List Pdisk_write)) : (Int × (List (Int × (List Int)))) → Option (Ctl (List (Int × (List Int))) (Int × (List (Int × (List Int)))))
  | (t43135, mpa0_now136) => (if (decide (t43135 < (m.length : Int))) then (((idx m t43135).bind fun x => ((cnt .u64 t43135).bind fun n204 => (if ((Go.bits .and .u64 (shrI a1 n204) 1) == 0) then (some mpa0_now136) else ((slices_Clone_Lbyte_byte x.b).bind fun y => ((if (t43135 == t7) then (if (decide (a2 ≥ 0)) then (some (decide (a2 < 64))) else (some false)) else (some false)).bind fun t66 => ((if t66 then ((slcH y.length a2 ((y.length : Nat) : Int)).bind fun (o, k235) => ((pdisk_Disk_Read (Pdisk_Disk.mk a0.n a0.sure mpa0_now136 ([] : (List Pdisk_write)) (-1)) x.i).bind fun y237 => ((slc y237 a2 (y237.length : Int)).bind fun m239 => (some (cpyL y o k235 m239))))) else (some y)).bind fun me207 => (some (mset mpa0_now136 x.i me207)))))))).bind fun mpa0_now184 => (some (.go ((IntKind.wrap .i64 (t43135 + 1)), mpa0_now184)))) else (early (some mpa0_now136)))

def pdisk_Disk_Crash (a0 : Pdisk_Disk) (a1 : Int) (a2 : Int) : Option Pdisk_Disk :=
  ((loopN (pdisk_Disk_Crash_L1 a0 a1) fuel ((-1), 0)).bind fun t7 => ((slc a0.l 0 (IntKind.wrap .i64 (t7 + 1))).bind fun m => ((loopN (pdisk_Disk_Crash_L2 a0 a1 a2 t7 m) fuel (0, ([] : (List (Int × (List Int)))))).bind fun mpa0_now => ((pdisk_Disk_settle (Pdisk_Disk.mk a0.n a0.sure mpa0_now ([] : (List Pdisk_write)) (-1))).bind fun y393 => (some y393)))))

def mementoref3_Disk_Crash_L1 (a0 : Mementoref3_Disk) (a1 : Int) : ((List Mementoref3_write) × Int) → Option (Ctl (List Mementoref3_write) ((List Mementoref3_write) × Int))
  | (t623, t725) => ((if (decide (t725 < (a0.l.length : Int))) then (some (decide (t725 < 64))) else (some false)).bind fun t22 => (if t22 then (((cnt .u64 t725).bind fun n => (if ((Go.bits .and .u64 (shrI a1 n) 1) == 1) then ((idx a0.l t725).bind fun x => ((app 32 t623 ([x] : (List Mementoref3_write))).bind fun m => (some m))) else (some t623))).bind fun t640 => (some (.go (t640, (IntKind.wrap .i64 (t725 + 1)))))) else (early (some t623))))

def mementoref3_Disk_Crash_L2 (t6 : (List Mementoref3_write)) (x77 : Mementoref3_write) : ((List Int) × Int) → Option (Ctl (List Int) ((List Int) × Int))
  | (t10113, t11114) => (if (decide (t11114 < (IntKind.wrap .i64 ((t6.length : Int) - 1)))) then (((idx t6 t11114).bind fun x132 => (if (x132.i == x77.i) then (some x132.b) else (some t10113))).bind fun t10124 => (some (.go (t10124, (IntKind.wrap .i64 (t11114 + 1)))))) else (early (some t10113)))

def mementoref3_Disk_Crash (a0 : Mementoref3_Disk) (a1 : Int) (a2 : Int) : Option Mementoref3_Disk :=
  ((loopN (mementoref3_Disk_Crash_L1 a0 a1) fuel (([] : (List Mementoref3_write)), 0)).bind fun t6 => ((if (decide ((t6.length : Int) > 0)) then (if (decide (a2 ≥ 0)) then (some (decide (a2 < 64))) else (some false)) else (some false)).bind fun t51 => ((if t51 then ((idx t6 (IntKind.wrap .i64 ((t6.length : Int) - 1))).bind fun x77 => ((idx a0.S x77.i).bind fun x92 => ((loopN (mementoref3_Disk_Crash_L2 t6 x77) fuel (x92, 0)).bind fun t10 => ((slc x77.b 0 a2).bind fun m134 => ((app 1 ([] : (List Int)) m134).bind fun m135 => ((slc t10 a2 (t10.length : Int)).bind fun m147 => ((app 1 m135 m147).bind fun m148 => ((updL t6 (IntKind.wrap .i64 ((t6.length : Int) - 1)) (Mementoref3_write.mk x77.i m148)).bind fun m160 => (some m160))))))))) else (some t6)).bind fun mgt6 => ((mementoref3_Disk_settle a0 (mgt6.length : Int) mgt6).bind fun y => (some (Mementoref3_Disk.mk y.S y.l (-1)))))))

def mementoref3_Disk_Read_L1 (d : Mementoref3_Disk) (i : Int) : ((List Int) × Int) → Option (Ctl (List Int) ((List Int) × Int))
  | (b13, k14) => (if (decide (k14 < (d.l.length : Int))) then (((idx d.l k14).bind fun x25 => (if (x25.i == i) then (some x25.b) else (some b13))).bind fun b20 => (some (.go (b20, (IntKind.wrap .i64 (k14 + 1)))))) else (early (some b13)))

def mementoref3_Disk_Read (d : Mementoref3_Disk) (i : Int) : Option (List Int) :=
  ((if (decide (i < 0)) then (some true) else (some (decide (i ≥ (d.S.length : Int))))).bind fun t17 => (if t17 then (some ([] : (List Int))) else ((idx d.S i).bind fun x => ((loopN (mementoref3_Disk_Read_L1 d i) fuel (x, 0)).bind fun b => ((app 1 ([] : (List Int)) b).bind fun m => (some m))))))

def mementoref3_Choose (d : Mementoref3_Disk) : Option (Mementoref3_Slot × Bool) :=
  ((mementoref3_Disk_Read d 0).bind fun y => ((mementoref3_ReadSlot y).bind fun (y2, y3) => ((mementoref3_Disk_Read d 1).bind fun y19 => ((mementoref3_ReadSlot y19).bind fun (y21, y22) => ((if y22 then (if (!y3) then (some true) else (some (decide (y21.Count > y2.Count)))) else (some false)).bind fun t31 => (if t31 then (some ((Mementoref3_Slot.mk y21.Count y21.Gen y21.Area), true)) else (some ((Mementoref3_Slot.mk y2.Count y2.Gen y2.Area), y3))))))))

def mementolaw4_SlotOutlasts (a0 : Int) (a1 : Int) (a2 : Int) (a3 : Int) (a4 : Int) (a5 : Int) (a6 : Int) : Option Bool :=
  ((mementolaw4_known).bind fun y => (if (!y) then (some false) else ((pdisk_New 3).bind fun y1 => ((mementoref3_NewDisk 3).bind fun y3 => ((slot_Set y1 (Slot_Slot.mk (IntKind.wrap .u64 ((IntKind.wrap .u64 a0) + 1)) a1 (IntKind.wrap .i64 (Int.tmod a3 2)))).bind fun (y42, y43) => ((mementolaw4_as (Slot_Slot.mk (IntKind.wrap .u64 ((IntKind.wrap .u64 a0) + 1)) a1 (IntKind.wrap .i64 (Int.tmod a3 2)))).bind fun y51 => ((mementoref3_Set y3 y51).bind fun (y53, y54) => (if (y42 != y53) then (some false) else ((pdisk_Disk_Power y43 (IntKind.wrap .i64 ((IntKind.wrap .i64 (Int.tmod a4 4)) - 1))).bind fun y63 => ((mementoref3_Disk_Power y54 (IntKind.wrap .i64 ((IntKind.wrap .i64 (Int.tmod a4 4)) - 1))).bind fun y71 => ((slot_Set y63 (Slot_Slot.mk (IntKind.wrap .u64 ((IntKind.wrap .u64 a0) + 2)) a2 (IntKind.wrap .i64 (Int.tmod (IntKind.wrap .u8 (Int.tdiv a3 2)) 2)))).bind fun (y79, y80) => ((mementolaw4_as (Slot_Slot.mk (IntKind.wrap .u64 ((IntKind.wrap .u64 a0) + 2)) a2 (IntKind.wrap .i64 (Int.tmod (IntKind.wrap .u8 (Int.tdiv a3 2)) 2)))).bind fun y88 => ((mementoref3_Set y71 y88).bind fun (y90, y91) => ((pdisk_Disk_Crash y80 a5 a6).bind fun y99 => ((mementoref3_Disk_Crash y91 a5 a6).bind fun y107 => ((slot_Choose y99).bind fun (y115, y116) => ((mementoref3_Choose y107).bind fun (y138, y139) => ((if (y79 == y90) then (if y116 then (if y139 then ((mementolaw4_as y115).bind fun y174 => (if ((y174.Count == y138.Count) && ((y174.Gen == y138.Gen) && ((y174.Area == y138.Area) && true))) then (if ((y115.Count == (IntKind.wrap .u64 ((IntKind.wrap .u64 a0) + 1))) && ((y115.Gen == a1) && ((y115.Area == (IntKind.wrap .i64 (Int.tmod a3 2))) && true))) then (if (y79 != 0) then (some true) else (some ((y115.Count == (IntKind.wrap .u64 ((IntKind.wrap .u64 a0) + 2))) && ((y115.Gen == a2) && ((y115.Area == (IntKind.wrap .i64 (Int.tmod (IntKind.wrap .u8 (Int.tdiv a3 2)) 2))) && true))))) else (if ((y115.Count == (IntKind.wrap .u64 ((IntKind.wrap .u64 a0) + 2))) && ((y115.Gen == a2) && ((y115.Area == (IntKind.wrap .i64 (Int.tmod (IntKind.wrap .u8 (Int.tdiv a3 2)) 2))) && true))) then (if (y79 != 0) then (some true) else (some ((y115.Count == (IntKind.wrap .u64 ((IntKind.wrap .u64 a0) + 2))) && ((y115.Gen == a2) && ((y115.Area == (IntKind.wrap .i64 (Int.tmod (IntKind.wrap .u8 (Int.tdiv a3 2)) 2))) && true))))) else (some false))) else (some false))) else (some false)) else (some false)) else (some false)).bind fun t14 => (some t14)))))))))))))))))))

end Go.Proofs.Yteclchefihcjkaa.Am
