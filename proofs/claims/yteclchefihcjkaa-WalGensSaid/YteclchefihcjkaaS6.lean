/- Functions, read as partial functions over lists. -/
import Derived.Test.YteclchefihcjkaaD1
namespace Go.Proofs.Yteclchefihcjkaa.Am
open Go
set_option linter.unusedVariables false
set_option maxRecDepth 10000

structure Pdisk_write where
  i : Int
  b : (List Int)
deriving Inhabited
def c_Pdisk_write (x : Pdisk_write) : List PV := [.sc (.int .i64 x.i), .sl 1 (x.b.map c_u8)]

structure Pdisk_Disk where
  n : Int
  sure : (List (Int × (List Int)))
  now : (List (Int × (List Int)))
  l : (List Pdisk_write)
  power : Int
deriving Inhabited

structure Pack_rest where
  b : (List Int)
  e : Int
deriving Inhabited
def c_Pack_rest (x : Pack_rest) : List PV := [.sl 1 (x.b.map c_u8), .sc (.int .i64 x.e)]

structure Pack_Reader where
  rest : Pack_rest
deriving Inhabited
def c_Pack_Reader (x : Pack_Reader) : List PV := [.sl 1 (x.rest.b.map c_u8), .sc (.int .i64 x.rest.e)]


def pdisk_New (n : Int) : Option Pdisk_Disk :=
  (some (Pdisk_Disk.mk (minI (maxI n 0) 1048576) ([] : (List (Int × (List Int)))) ([] : (List (Int × (List Int)))) ([] : (List Pdisk_write)) (-1)))

def pack_Put_L2 : ((List Int) × Int) → Option (Ctl ((List Int) × Int) ((List Int) × Int))
  | (out36, n38) => (if (decide (n38 ≥ 128)) then ((app 1 out36 ([(Go.bits .or .u8 (IntKind.wrap .u8 n38) 128)] : (List Int))).bind fun m => (some (.go (m, (shrI n38 7))))) else (early (some (out36, n38))))

def pack_Put_L1 (l : (List Int)) : ((List Int) × Int) → Option (Ctl (List Int) ((List Int) × Int))
  | (out9, t811) => (if (decide (t811 < (l.length : Int))) then ((idx l t811).bind fun x => ((loopN (pack_Put_L2) fuel (out9, x)).bind fun (out17, n) => ((app 1 out17 ([(IntKind.wrap .u8 n)] : (List Int))).bind fun m50 => (some (.go (m50, (IntKind.wrap .i64 (t811 + 1)))))))) else (early (some out9)))

def pack_Put (l : (List Int)) : Option (List Int) :=
  ((loopN (pack_Put_L1 l) fuel (([] : (List Int)), 0)).bind fun out => (some out))

def wal_sectors (n : Int) : Option Int :=
  (some (IntKind.wrap .i64 (Int.tdiv (IntKind.wrap .i64 ((IntKind.wrap .i64 (n + 48)) - 1)) 48)))

def wal_Need_L1 (bodies : (List (List Int))) : (Int × Int) → Option (Ctl Int (Int × Int))
  | (n6, t87) => (if (decide (t87 < (bodies.length : Int))) then ((idx bodies t87).bind fun x => ((pack_Put ([(IntKind.wrap .u64 (x.length : Int))] : (List Int))).bind fun y => ((wal_sectors (IntKind.wrap .i64 ((IntKind.wrap .i64 ((y.length : Int) + (x.length : Int))) + 4))).bind fun y11 => (some (.go ((IntKind.wrap .i64 (n6 + y11)), (IntKind.wrap .i64 (t87 + 1)))))))) else (early (some n6)))

def wal_Need (bodies : (List (List Int))) : Option Int :=
  ((loopN (wal_Need_L1 bodies) fuel (0, 0)).bind fun n => (some n))

def pack_Lump (b : (List Int)) : Option (List Int) :=
  ((pack_Put ([(IntKind.wrap .u64 (b.length : Int))] : (List Int))).bind fun y => ((app 1 y b).bind fun m => (some m)))

def crc_More_L2 : (Int × Int) → Option (Ctl Int (Int × Int))
  | (vc22, t2023) => (if (decide (t2023 < 8)) then (some (.go ((Go.bits .xor .u32 (shrI vc22 1) (IntKind.wrap .u32 (2197175160 * (Go.bits .and .u32 vc22 1)))), (IntKind.wrap .i64 (t2023 + 1))))) else (early (some vc22)))

def crc_More_L1 (b : (List Int)) : (Int × Int) → Option (Ctl Int (Int × Int))
  | (vc7, t128) => (if (decide (t128 < (b.length : Int))) then ((idx b t128).bind fun x => ((loopN (crc_More_L2) fuel ((Go.bits .xor .u32 vc7 (IntKind.wrap .u32 x)), 0)).bind fun vc13 => (some (.go (vc13, (IntKind.wrap .i64 (t128 + 1))))))) else (early (some vc7)))

def crc_More (vc : Int) (b : (List Int)) : Option Int :=
  ((loopN (crc_More_L1 b) fuel ((notI .u32 vc), 0)).bind fun vc1 => (some (notI .u32 vc1)))

def crc_Sum_L1 (l : (List (List Int))) : (Int × Int) → Option (Ctl Int (Int × Int))
  | (vc6, t87) => (if (decide (t87 < (l.length : Int))) then ((idx l t87).bind fun x => ((crc_More vc6 x).bind fun y => (some (.go (y, (IntKind.wrap .i64 (t87 + 1))))))) else (early (some vc6)))

def crc_Sum (l : (List (List Int))) : Option Int :=
  ((loopN (crc_Sum_L1 l) fuel (0, 0)).bind fun vc => (some vc))

def crc_Four (vc : Int) : Option (List Int) :=
  (some ([(IntKind.wrap .u8 vc), (IntKind.wrap .u8 (shrI vc 8)), (IntKind.wrap .u8 (shrI vc 16)), (IntKind.wrap .u8 (shrI vc 24))] : (List Int)))

def crc_Seal (b : (List Int)) : Option (List Int) :=
  ((app 1 ([] : (List Int)) b).bind fun m => ((crc_Sum ([b] : (List (List Int)))).bind fun y => ((crc_Four y).bind fun y1 => ((app 1 m y1).bind fun m3 => (some m3)))))

def wal_num_L1 (n : Int) (m : (List Int)) : (Int × (List Int)) → Option (Ctl (List Int) (Int × (List Int)))
  | (t814, me15) => (if (decide (t814 < (m.length : Int))) then ((cnt .u64 (IntKind.wrap .i64 (8 * t814))).bind fun n21 => ((idx me15 t814).bind fun x => ((updL me15 t814 (IntKind.wrap .u8 (shrI n n21))).bind fun m22 => (some (.go ((IntKind.wrap .i64 (t814 + 1)), m22)))))) else (early (some me15)))

def wal_num (n : Int) : Option (List Int) :=
  ((mks 1 0 8).bind fun m => ((loopN (wal_num_L1 n m) fuel (0, m)).bind fun me => (some me)))

def slices_Grow_Lbyte_byte_nil (n : Int) : Option (List Int) :=
  (if (decide (n < 0)) then none else (if (decide ((IntKind.wrap .i64 (n - (IntKind.wrap .i64 (0 - 0)))) > 0)) then ((slc ([] : (List Int)) 0 0).bind fun m => ((mkz 1 (IntKind.wrap .i64 (n - (IntKind.wrap .i64 (0 - 0))))).bind fun u => (some ([] : (List Int))))) else (some ([] : (List Int)))))

def slices_Concat_Lbyte_byte_L1 (slices : (List (List Int))) : (Int × Int) → Option (Ctl Int (Int × Int))
  | (size6, t117) => (if (decide (t117 < (slices.length : Int))) then ((idx slices t117).bind fun x => (if (decide ((IntKind.wrap .i64 (size6 + (x.length : Int))) < 0)) then none else (some (.go ((IntKind.wrap .i64 (size6 + (x.length : Int))), (IntKind.wrap .i64 (t117 + 1))))))) else (early (some size6)))

def slices_Concat_Lbyte_byte_L2 (slices : (List (List Int))) : ((List Int) × Int) → Option (Ctl (List Int) ((List Int) × Int))
  | (newslice29, t2731) => (if (decide (t2731 < (slices.length : Int))) then ((idx slices t2731).bind fun x39 => ((app 1 newslice29 x39).bind fun m => (some (.go (m, (IntKind.wrap .i64 (t2731 + 1))))))) else (early (some newslice29)))

def slices_Concat_Lbyte_byte (slices : (List (List Int))) : Option (List Int) :=
  ((loopN (slices_Concat_Lbyte_byte_L1 slices) fuel (0, 0)).bind fun size => ((slices_Grow_Lbyte_byte_nil size).bind fun y => ((loopN (slices_Concat_Lbyte_byte_L2 slices) fuel (y, 0)).bind fun newslice => (some newslice))))

def pack_Join (l : (List (List Int))) : Option (List Int) :=
  ((slices_Concat_Lbyte_byte l).bind fun y => (some y))

def pdisk_Disk_dead (d : Pdisk_Disk) : Option (Bool × Pdisk_Disk) :=
  (if (decide (d.power > 0)) then (some (false, (Pdisk_Disk.mk d.n d.sure d.now d.l (IntKind.wrap .i64 (d.power - 1))))) else (some ((d.power == 0), d)))

def pdisk_Disk_Write (d : Pdisk_Disk) (i : Int) (b : (List Int)) : Option (Int × Pdisk_Disk) :=
  ((if (decide (i < 0)) then (some true) else (some (decide (i ≥ d.n)))).bind fun t8 => (if t8 then (some (25, d)) else (if (decide ((b.length : Int) > 64)) then (some (22, d)) else ((pdisk_Disk_dead d).bind fun (y, y121) => (if y then (some (26, y121)) else ((mks 1 0 64).bind fun m => ((if (decide ((y121.l.length : Int) < 64)) then ((app 32 y121.l ([(Pdisk_write.mk i (cpyL m 0 m.length b))] : (List Pdisk_write))).bind fun m214 => (some m214)) else (some y121.l)).bind fun mpd_l => (some (0, (Pdisk_Disk.mk y121.n y121.sure (mset y121.now i (cpyL m 0 m.length b)) mpd_l y121.power))))))))))

def wal_Append_L1 (a3 : Int) : (Int × (List Int) × Pdisk_Disk) → Option (Ctl (Ctl (Int × Int × Pdisk_Disk) (Int × Pdisk_Disk)) (Int × (List Int) × Pdisk_Disk))
  | (t119, t1220, mpa021) => (if (decide ((t1220.length : Int) > 0)) then ((mks 1 0 48).bind fun m => ((slc t1220 ((min t1220.length m.length : Nat) : Int) (t1220.length : Int)).bind fun m37 => ((wal_num a3).bind fun y41 => ((pack_Join ([y41, (cpyL m 0 m.length t1220), y41] : (List (List Int)))).bind fun y43 => ((pdisk_Disk_Write mpa021 t119 y43).bind fun (y45, y46) => (if (y45 != 0) then (early (early (some (0, y45, y46)))) else (some (.go ((IntKind.wrap .i64 (t119 + 1)), m37, y46))))))))) else (early (some (.go (t119, mpa021)))))

def wal_Append (a0 : Pdisk_Disk) (a1 : Int) (a2 : Int) (a3 : Int) (a4 : (List Int)) : Option (Int × Int × Pdisk_Disk) :=
  (if (decide ((a4.length : Int) > 65535)) then (some (0, 22, a0)) else ((if (decide (a1 < 0)) then (some true) else (if (decide (a1 > a2)) then (some true) else ((wal_Need ([a4] : (List (List Int)))).bind fun y => (some (decide (y > (IntKind.wrap .i64 (a2 - a1)))))))).bind fun t22 => (if t22 then (some (0, 27, a0)) else ((pack_Lump a4).bind fun y3 => ((crc_Seal y3).bind fun y5 => (kont (loopN (wal_Append_L1 a3) fuel (a1, y5, a0)) fun (t1, mpa0) => (some (t1, 0, mpa0))))))))

def slices_Clone_Lbyte_byte (vs : (List Int)) : Option (List Int) :=
  ((app 1 ([] : (List Int)) vs).bind fun m => (some m))

def pdisk_sectors_get (vs : (List (Int × (List Int)))) (i : Int) : Option (List Int) :=
  (mcase (mget vs i) (fun b => ((chkE b).bind fun () => ((slices_Clone_Lbyte_byte b).bind fun y => (some y)))) ((mks 1 0 64).bind fun m => (some m)))

def pdisk_Disk_Read (d : Pdisk_Disk) (i : Int) : Option (List Int) :=
  ((if (decide (i < 0)) then (some true) else (some (decide (i ≥ d.n)))).bind fun t15 => (if t15 then (some ([] : (List Int))) else (mcase (mget d.now i) (fun b => ((chkE b).bind fun () => ((slices_Clone_Lbyte_byte b).bind fun y208 => (some y208)))) ((pdisk_sectors_get d.sure i).bind fun y => (some y)))))

def bytes_Equal (a : (List Int)) (b : (List Int)) : Option Bool :=
  (some ((strOf a) == (strOf b)))

def bytes_HasPrefix (vs : (List Int)) (vprefix : (List Int)) : Option Bool :=
  ((if (decide ((vs.length : Int) ≥ (vprefix.length : Int))) then ((slc vs 0 (vprefix.length : Int)).bind fun m => ((bytes_Equal m vprefix).bind fun y => (some y))) else (some false)).bind fun t4 => (some t4))

def bytes_HasSuffix (vs : (List Int)) (suffix : (List Int)) : Option Bool :=
  ((if (decide ((vs.length : Int) ≥ (suffix.length : Int))) then ((slc vs (IntKind.wrap .i64 ((vs.length : Int) - (suffix.length : Int))) (vs.length : Int)).bind fun m => ((bytes_Equal m suffix).bind fun y => (some y))) else (some false)).bind fun t4 => (some t4))

def wal_part (d : Pdisk_Disk) (i : Int) (gen : Int) : Option ((List Int) × Bool) :=
  ((pdisk_Disk_Read d i).bind fun y => ((wal_num gen).bind fun y1 => (((bytes_HasPrefix y y1).bind fun y3 => (if (!y3) then (some true) else ((bytes_HasSuffix y y1).bind fun y5 => (if (!y5) then (some true) else (some ((y.length : Int) != 64)))))).bind fun t29 => (if t29 then (some (([] : (List Int)), false)) else ((slc y 8 56).bind fun m => (some (m, true)))))))

def pack_New (b : (List Int)) : Option Pack_Reader :=
  ((slices_Clone_Lbyte_byte b).bind fun y => (some (Pack_Reader.mk (Pack_rest.mk y 0))))

def pack_number_L1 (b : (List Int)) : (Int × Int) → Option (Ctl (Ctl (Int × Int × Int) Unit) (Int × Int))
  | (n5, t106) => (if (decide (t106 < (b.length : Int))) then ((idx b t106).bind fun x => ((if (t106 == 9) then (some (decide (x > 1))) else (some false)).bind fun t20 => (if t20 then (early (early (some (0, 0, 20)))) else ((cnt .u64 (IntKind.wrap .i64 (7 * t106))).bind fun n15 => (if ((Go.bits .and .u8 x 128) != 0) then (some (.go ((Go.bits .or .u64 n5 (shlI .u64 (IntKind.wrap .u64 (Go.bits .andNot .u8 x 128)) n15)), (IntKind.wrap .i64 (t106 + 1))))) else ((if (decide (t106 > 0)) then (some (x == 0)) else (some false)).bind fun t37 => (if t37 then (early (early (some (0, 0, 20)))) else (early (early (some ((Go.bits .or .u64 n5 (shlI .u64 (IntKind.wrap .u64 (Go.bits .andNot .u8 x 128)) n15)), (IntKind.wrap .i64 (t106 + 1)), 0))))))))))) else (early (some (.go ()))))

def pack_number (b : (List Int)) : Option (Int × Int × Int) :=
  (kont (loopN (pack_number_L1 b) fuel (0, 0)) fun () => (some (0, 0, 21)))

def pack_rest_fail (vr : Pack_rest) (e : Int) : Option Pack_rest :=
  (some (Pack_rest.mk ([] : (List Int)) e))

def pack_Reader_Num (vr : Pack_Reader) (most : Int) : Option (Int × Pack_Reader) :=
  (if (vr.rest.e != 0) then (some (0, vr)) else ((pack_number vr.rest.b).bind fun (y, y1, y2) => (if (y2 != 0) then ((pack_rest_fail vr.rest y2).bind fun y4 => (some (0, (Pack_Reader.mk y4)))) else (if (decide (y > most)) then ((pack_rest_fail vr.rest 22).bind fun y7 => (some (0, (Pack_Reader.mk y7)))) else ((slc vr.rest.b y1 (vr.rest.b.length : Int)).bind fun m => (some (y, (Pack_Reader.mk (Pack_rest.mk m vr.rest.e)))))))))

def pack_rest_Left (vr : Pack_rest) : Option Int :=
  (some (vr.b.length : Int))

def pack_rest_Err (vr : Pack_rest) : Option Int :=
  (some vr.e)

def crc_Open (b : (List Int)) : Option ((List Int) × Bool) :=
  ((if (decide ((IntKind.wrap .i64 ((b.length : Int) - 4)) < 0)) then (some true) else ((slc b (IntKind.wrap .i64 ((b.length : Int) - 4)) (b.length : Int)).bind fun m => ((slc b 0 (IntKind.wrap .i64 ((b.length : Int) - 4))).bind fun m1 => ((crc_Sum ([m1] : (List (List Int)))).bind fun y => ((crc_Four y).bind fun y2 => ((bytes_Equal m y2).bind fun y4 => (some (!y4)))))))).bind fun t22 => (if t22 then (some (([] : (List Int)), false)) else ((slc b 0 (IntKind.wrap .i64 ((b.length : Int) - 4))).bind fun m6 => ((app 1 ([] : (List Int)) m6).bind fun m7 => (some (m7, true))))))

def wal_one_L1 (a0 : Pdisk_Disk) (a1 : Int) (a3 : Int) (y : (List Int)) (y9 : Int) (y16 : Int) : ((List Int) × Int) → Option (Ctl (Ctl ((List Int) × Int × Bool) (List Int)) ((List Int) × Int))
  | (t1143, t1744) => (if (decide ((t1143.length : Int) < (IntKind.wrap .i64 ((IntKind.wrap .i64 ((IntKind.wrap .i64 ((y.length : Int) - y16)) + (IntKind.wrap .i64 y9))) + 4)))) then ((wal_part a0 (IntKind.wrap .i64 (a1 + t1744)) a3).bind fun (y52, y53) => (if (!y53) then (early (early (some (([] : (List Int)), 0, false)))) else ((pack_Join ([t1143, y52] : (List (List Int)))).bind fun y56 => (some (.go (y56, (IntKind.wrap .i64 (t1744 + 1)))))))) else (early (some (.go t1143))))

def wal_one (a0 : Pdisk_Disk) (a1 : Int) (a2 : Int) (a3 : Int) : Option ((List Int) × Int × Bool) :=
  ((if (decide (a1 < 0)) then (some true) else (some (decide (a1 ≥ a2)))).bind fun t27 => (if t27 then (some (([] : (List Int)), 0, false)) else ((wal_part a0 a1 a3).bind fun (y, y1) => (if (!y1) then (some (([] : (List Int)), 0, false)) else ((pack_New y).bind fun y3 => ((pack_Reader_Num y3 65535).bind fun (y9, y10) => ((pack_rest_Left y10.rest).bind fun y16 => (((pack_rest_Err y10.rest).bind fun y23 => (if (y23 != 0) then (some true) else ((wal_sectors (IntKind.wrap .i64 ((IntKind.wrap .i64 ((IntKind.wrap .i64 ((y.length : Int) - y16)) + (IntKind.wrap .i64 y9))) + 4))).bind fun y26 => (some (decide (y26 > (IntKind.wrap .i64 (a2 - a1)))))))).bind fun t65 => (if t65 then (some (([] : (List Int)), 0, false)) else (kont (loopN (wal_one_L1 a0 a1 a3 y y9 y16) fuel (y, 1)) fun t11 => ((slc t11 0 (IntKind.wrap .i64 ((IntKind.wrap .i64 ((IntKind.wrap .i64 ((y.length : Int) - y16)) + (IntKind.wrap .i64 y9))) + 4))).bind fun m => ((crc_Open m).bind fun (y58, y59) => (if (!y59) then (some (([] : (List Int)), 0, false)) else ((slc y58 (IntKind.wrap .i64 ((y.length : Int) - y16)) (y58.length : Int)).bind fun m62 => ((wal_sectors (IntKind.wrap .i64 ((IntKind.wrap .i64 ((IntKind.wrap .i64 ((y.length : Int) - y16)) + (IntKind.wrap .i64 y9))) + 4))).bind fun y63 => (some (m62, y63, true)))))))))))))))))

def wal_Scan_L1 (d : Pdisk_Disk) (to : Int) (gen : Int) : (Int × (List (List Int))) → Option (Ctl (Int × (List (List Int))) (Int × (List (List Int))))
  | (vfrom14, out15) => ((wal_one d vfrom14 to gen).bind fun (y, y24, y25) => (if (!y25) then (early (some (vfrom14, out15))) else ((app 24 out15 ([y] : (List (List Int)))).bind fun m => (some (.go ((IntKind.wrap .i64 (vfrom14 + y24)), m))))))

def wal_Scan (d : Pdisk_Disk) (vfrom : Int) (to : Int) (gen : Int) : Option ((List (List Int)) × Int) :=
  ((loopN (wal_Scan_L1 d to gen) fuel (vfrom, ([] : (List (List Int))))).bind fun (vfrom1, out) => (some (out, vfrom1)))

def mementolaw5_known : Option Bool :=
  ((pdisk_New 9).bind fun y => ((wal_Append y 2 9 7 ([97, 98] : (List Int))).bind fun (y10, y11, y12) => ((mks 1 0 100).bind fun m => ((wal_Append y12 y10 9 7 m).bind fun (y17, y18, y19) => ((wal_Append y19 y17 8 7 m).bind fun (y24, y25, y26) => ((wal_Scan y26 2 9 7).bind fun (y31, y32) => ((wal_Scan y26 2 9 8).bind fun (y34, y35) => ((if (y11 == 0) then (if (y10 == 3) then (if (y18 == 0) then (if (y17 == 6) then (if (y25 == 27) then (if ((y31.length : Int) == 2) then ((idx y31 0).bind fun x => (if ((strOf x) == ([97, 98] : List UInt8)) then (if (y32 == 6) then (if ((y34.length : Int) == 0) then (if (y35 == 2) then ((wal_Need ([([97, 98] : (List Int)), m] : (List (List Int)))).bind fun y60 => (some (y60 == 4))) else (some false)) else (some false)) else (some false)) else (some false))) else (some false)) else (some false)) else (some false)) else (some false)) else (some false)) else (some false)).bind fun t0 => (some t0)))))))))

def pdisk_Disk_settle (d : Pdisk_Disk) : Option Pdisk_Disk :=
  (some (Pdisk_Disk.mk d.n (munion d.sure d.now) ([] : (List (Int × (List Int)))) ([] : (List Pdisk_write)) d.power))

def pdisk_Disk_Flush (d : Pdisk_Disk) : Option (Int × Pdisk_Disk) :=
  ((pdisk_Disk_dead d).bind fun (y, y1) => (if y then (some (26, y1)) else ((pdisk_Disk_settle y1).bind fun y2 => (some (0, y2)))))

def pdisk_Disk_Crash_L1 (a0 : Pdisk_Disk) (a1 : Int) : (Int × Int) → Option (Ctl Int (Int × Int))
  | (t765, t1866) => (if (decide (t1866 < (a0.l.length : Int))) then (((cnt .u64 t1866).bind fun n => (if ((Go.bits .and .u64 (shrI a1 n) 1) == 1) then (some t1866) else (some t765))).bind fun t775 => (some (.go (t775, (IntKind.wrap .i64 (t1866 + 1)))))) else (early (some t765)))

def pdisk_Disk_Crash_L2 (a0 : Pdisk_Disk) (a1 : Int) (a2 : Int) (t7 : Int) (m : (List Pdisk_write)) : (Int × (List (Int × (List Int)))) → Option (Ctl (List (Int × (List Int))) (Int × (List (Int × (List Int)))))
  | (t43135, mpa0_now136) => (if (decide (t43135 < (m.length : Int))) then (((idx m t43135).bind fun x => ((cnt .u64 t43135).bind fun n204 => (if ((Go.bits .and .u64 (shrI a1 n204) 1) == 0) then (some mpa0_now136) else ((slices_Clone_Lbyte_byte x.b).bind fun y => ((if (t43135 == t7) then (if (decide (a2 ≥ 0)) then (some (decide (a2 < 64))) else (some false)) else (some false)).bind fun t66 => ((if t66 then ((slcH y.length a2 ((y.length : Nat) : Int)).bind fun (o, k235) => ((pdisk_Disk_Read (Pdisk_Disk.mk a0.n a0.sure mpa0_now136 ([] : (List Pdisk_write)) (-1)) x.i).bind fun y237 => ((slc y237 a2 (y237.length : Int)).bind fun m239 => (some (cpyL y o k235 m239))))) else (some y)).bind fun me207 => (some (mset mpa0_now136 x.i me207)))))))).bind fun mpa0_now184 => (some (.go ((IntKind.wrap .i64 (t43135 + 1)), mpa0_now184)))) else (early (some mpa0_now136)))

def pdisk_Disk_Crash (a0 : Pdisk_Disk) (a1 : Int) (a2 : Int) : Option Pdisk_Disk :=
  ((loopN (pdisk_Disk_Crash_L1 a0 a1) fuel ((-1), 0)).bind fun t7 => ((slc a0.l 0 (IntKind.wrap .i64 (t7 + 1))).bind fun m => ((loopN (pdisk_Disk_Crash_L2 a0 a1 a2 t7 m) fuel (0, ([] : (List (Int × (List Int)))))).bind fun mpa0_now => ((pdisk_Disk_settle (Pdisk_Disk.mk a0.n a0.sure mpa0_now ([] : (List Pdisk_write)) (-1))).bind fun y393 => (some y393)))))

def mementohelp_Bodies_L1 (a : (List (List Int))) (b : (List (List Int))) : Int → Option (Ctl (Ctl Bool Unit) Int)
  | i5 => (if (decide (i5 < (a.length : Int))) then ((idx a i5).bind fun x => ((idx b i5).bind fun x11 => (if ((strOf x) != (strOf x11)) then (early (early (some false))) else (some (.go (IntKind.wrap .i64 (i5 + 1))))))) else (early (some (.go ()))))

def mementohelp_Bodies (a : (List (List Int))) (b : (List (List Int))) : Option Bool :=
  (if ((a.length : Int) != (b.length : Int)) then (some false) else (kont (loopN (mementohelp_Bodies_L1 a b) fuel 0) fun () => (some true)))

def mementolaw5_WalEnds_L1 (a0 : (List (List Int))) (a1 : (List (List Int))) : ((List (List Int)) × Int × Int × Pdisk_Disk) → Option (Ctl (Ctl Bool ((List (List Int)) × Pdisk_Disk)) ((List (List Int)) × Int × Int × Pdisk_Disk))
  | (t1023, t1125, t1226, me27) => (if (decide (t1226 < (IntKind.wrap .i64 ((a0.length : Int) + (a1.length : Int))))) then ((if (t1226 == (a0.length : Int)) then ((pdisk_Disk_Flush me27).bind fun (y44, y45) => (some y45)) else (some me27)).bind fun me36 => ((if (decide (t1226 < (a0.length : Int))) then ((idx a0 t1226).bind fun x => (some x)) else ((idx a1 (IntKind.wrap .i64 (t1226 - (a0.length : Int)))).bind fun x58 => (some x58))).bind fun t13 => (if (decide ((t13.length : Int) > 60)) then (early (early (some true))) else ((wal_Append me36 t1125 40 9 t13).bind fun (y60, y61, y62) => (if (y61 != 0) then (early (early (some false))) else ((app 24 t1023 ([t13] : (List (List Int)))).bind fun m => (some (.go (m, y60, (IntKind.wrap .i64 (t1226 + 1)), y62))))))))) else (early (some (.go (t1023, me27)))))

def mementolaw5_WalEnds (a0 : (List (List Int))) (a1 : (List (List Int))) (a2 : Int) (a3 : Int) : Option Bool :=
  ((mementolaw5_known).bind fun y => (if (!y) then (some false) else ((if (decide ((a0.length : Int) > 5)) then (some true) else (some (decide ((a1.length : Int) > 5)))).bind fun t27 => (if t27 then (some true) else ((pdisk_New 40).bind fun y2 => (kont (loopN (mementolaw5_WalEnds_L1 a0 a1) fuel (([] : (List (List Int))), 0, 0, y2)) fun (t10, me) => ((if ((a1.length : Int) == 0) then ((pdisk_Disk_Flush me).bind fun (y83, y84) => (some y84)) else (some me)).bind fun me75 => ((pdisk_Disk_Crash me75 a2 a3).bind fun y90 => ((wal_Scan y90 0 40 9).bind fun (y96, y97) => ((if (decide ((y96.length : Int) ≥ (a0.length : Int))) then (if (decide ((y96.length : Int) ≤ (t10.length : Int))) then ((slc t10 0 (y96.length : Int)).bind fun m105 => ((mementohelp_Bodies y96 m105).bind fun y106 => (some y106))) else (some false)) else (some false)).bind fun t8 => (some t8)))))))))))

def mementolaw5_WalGens_1_L1 (l : (List (List Int))) (vg : Int) : (Int × Int × Pdisk_Disk) → Option (Ctl (Ctl (Bool × Pdisk_Disk) Pdisk_Disk) (Int × Int × Pdisk_Disk))
  | (n11, i12, mpa213) => (if (decide (i12 < (l.length : Int))) then ((idx l i12).bind fun x => ((wal_Append mpa213 n11 60 vg x).bind fun (y, y20, y21) => (if (y20 != 0) then (early (early (some (false, y21)))) else (some (.go (y, (IntKind.wrap .i64 (i12 + 1)), y21)))))) else (early (some (.go mpa213))))

def mementolaw5_WalGens_1 (l : (List (List Int))) (vg : Int) (a2 : Pdisk_Disk) : Option (Bool × Pdisk_Disk) :=
  (kont (loopN (mementolaw5_WalGens_1_L1 l vg) fuel (0, 0, a2)) fun mpa2 => (some (true, mpa2)))

def mementolaw5_WalGens_L1 (a0 : (List (List Int))) (a1 : (List (List Int))) : Int → Option (Ctl (Ctl Bool Unit) Int)
  | t1130 => (if (decide (t1130 < (IntKind.wrap .i64 ((a0.length : Int) + (a1.length : Int))))) then ((app 24 ([] : (List (List Int))) a0).bind fun m => ((app 24 m a1).bind fun m47 => ((idx m47 t1130).bind fun x => (if (decide ((x.length : Int) > 40)) then (early (early (some true))) else (some (.go (IntKind.wrap .i64 (t1130 + 1)))))))) else (early (some (.go ()))))

def mementolaw5_WalGens (a0 : (List (List Int))) (a1 : (List (List Int))) (a2 : Int) (a3 : Int) : Option Bool :=
  ((mementolaw5_known).bind fun y => (if (!y) then (some false) else ((if (decide ((a0.length : Int) > 6)) then (some true) else (if (decide ((a1.length : Int) > 6)) then (some true) else (some (a2 == a3)))).bind fun t31 => (if t31 then (some true) else ((pdisk_New 60).bind fun y3 => (kont (loopN (mementolaw5_WalGens_L1 a0 a1) fuel 0) fun () => (((mementolaw5_WalGens_1 a0 a2 y3).bind fun (y64, y65) => (if (!y64) then (some (true, y65)) else ((mementolaw5_WalGens_1 a1 a3 y65).bind fun (y72, y73) => (some ((!y72), y73))))).bind fun (t64, me) => (if t64 then (some false) else ((wal_Scan me 0 60 a3).bind fun (y80, y81) => ((wal_Scan me 0 60 a2).bind fun (y83, y84) => (((mementohelp_Bodies y80 a1).bind fun y91 => (if y91 then ((wal_Need a1).bind fun y94 => (if (y81 == y94) then (if (decide ((a1.length : Int) > 0)) then (if ((y83.length : Int) == 0) then (some true) else (if ((a1.length : Int) == 0) then ((mementohelp_Bodies y83 a0).bind fun y100 => (some y100)) else (some false))) else (if ((a1.length : Int) == 0) then ((mementohelp_Bodies y83 a0).bind fun y103 => (some y103)) else (some false))) else (some false))) else (some false))).bind fun t8 => (some t8))))))))))))

end Go.Proofs.Yteclchefihcjkaa.Am
