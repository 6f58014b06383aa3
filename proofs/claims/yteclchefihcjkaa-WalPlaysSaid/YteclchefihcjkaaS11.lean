/- Functions, read as partial functions over lists. -/
import Derived.Test.YteclchefihcjkaaD1
namespace Go.Proofs.Yteclchefihcjkaa.Am
open Go
set_option linter.unusedVariables false
set_option maxRecDepth 10000

structure Pdisk_write where
  i : Int
  b : (List Int)
deriving Inhabited
def c_Pdisk_write (x : Pdisk_write) : List PV := [.sc (.int .i64 x.i), .sl 1 (x.b.map c_u8)]

structure Pdisk_Disk where
  n : Int
  sure : (List (Int × (List Int)))
  now : (List (Int × (List Int)))
  l : (List Pdisk_write)
  power : Int
deriving Inhabited

structure Pack_rest where
  b : (List Int)
  e : Int
deriving Inhabited
structure Pack_Reader where
  rest : Pack_rest
deriving Inhabited
structure Mementoref3_write where
  i : Int
  b : (List Int)
deriving Inhabited
def c_Mementoref3_write (x : Mementoref3_write) : List PV := [.sc (.int .i64 x.i), .sl 1 (x.b.map c_u8)]

structure Mementoref3_Disk where
  S : (List (List Int))
  l : (List Mementoref3_write)
  left : Int
deriving Inhabited
structure Mementoref1_Reader where
  B : (List Int)
  E : Int
deriving Inhabited
structure A2_int where
  f0 : Int
  f1 : Int
deriving Inhabited
def c_A2_int (x : A2_int) : List PV := [.sc (.int .i64 x.f0), .sc (.int .i64 x.f1)]


def pdisk_New (n : Int) : Option Pdisk_Disk :=
  (some (Pdisk_Disk.mk (minI (maxI n 0) 1048576) ([] : (List (Int × (List Int)))) ([] : (List (Int × (List Int)))) ([] : (List Pdisk_write)) (-1)))

def pack_Put_L2 : ((List Int) × Int) → Option (Ctl ((List Int) × Int) ((List Int) × Int))
  | (out36, n38) => (if (decide (n38 ≥ 128)) then ((app 1 out36 ([(Go.bits .or .u8 (IntKind.wrap .u8 n38) 128)] : (List Int))).bind fun m => (some (.go (m, (shrI n38 7))))) else (early (some (out36, n38))))

def pack_Put_L1 (l : (List Int)) : ((List Int) × Int) → Option (Ctl (List Int) ((List Int) × Int))
  | (out9, t811) => (if (decide (t811 < (l.length : Int))) then ((idx l t811).bind fun x => ((loopN (pack_Put_L2) fuel (out9, x)).bind fun (out17, n) => ((app 1 out17 ([(IntKind.wrap .u8 n)] : (List Int))).bind fun m50 => (some (.go (m50, (IntKind.wrap .i64 (t811 + 1)))))))) else (early (some out9)))

def pack_Put (l : (List Int)) : Option (List Int) :=
  ((loopN (pack_Put_L1 l) fuel (([] : (List Int)), 0)).bind fun out => (some out))

def wal_sectors (n : Int) : Option Int :=
  (some (IntKind.wrap .i64 (Int.tdiv (IntKind.wrap .i64 ((IntKind.wrap .i64 (n + 48)) - 1)) 48)))

def wal_Need_L1 (bodies : (List (List Int))) : (Int × Int) → Option (Ctl Int (Int × Int))
  | (n6, t87) => (if (decide (t87 < (bodies.length : Int))) then ((idx bodies t87).bind fun x => ((pack_Put ([(IntKind.wrap .u64 (x.length : Int))] : (List Int))).bind fun y => ((wal_sectors (IntKind.wrap .i64 ((IntKind.wrap .i64 ((y.length : Int) + (x.length : Int))) + 4))).bind fun y11 => (some (.go ((IntKind.wrap .i64 (n6 + y11)), (IntKind.wrap .i64 (t87 + 1)))))))) else (early (some n6)))

def wal_Need (bodies : (List (List Int))) : Option Int :=
  ((loopN (wal_Need_L1 bodies) fuel (0, 0)).bind fun n => (some n))

def pack_Lump (b : (List Int)) : Option (List Int) :=
  ((pack_Put ([(IntKind.wrap .u64 (b.length : Int))] : (List Int))).bind fun y => ((app 1 y b).bind fun m => (some m)))

def crc_More_L2 : (Int × Int) → Option (Ctl Int (Int × Int))
  | (vc22, t2023) => (if (decide (t2023 < 8)) then (some (.go ((Go.bits .xor .u32 (shrI vc22 1) (IntKind.wrap .u32 (2197175160 * (Go.bits .and .u32 vc22 1)))), (IntKind.wrap .i64 (t2023 + 1))))) else (early (some vc22)))

def crc_More_L1 (b : (List Int)) : (Int × Int) → Option (Ctl Int (Int × Int))
  | (vc7, t128) => (if (decide (t128 < (b.length : Int))) then ((idx b t128).bind fun x => ((loopN (crc_More_L2) fuel ((Go.bits .xor .u32 vc7 (IntKind.wrap .u32 x)), 0)).bind fun vc13 => (some (.go (vc13, (IntKind.wrap .i64 (t128 + 1))))))) else (early (some vc7)))

def crc_More (vc : Int) (b : (List Int)) : Option Int :=
  ((loopN (crc_More_L1 b) fuel ((notI .u32 vc), 0)).bind fun vc1 => (some (notI .u32 vc1)))

def crc_Sum_L1 (l : (List (List Int))) : (Int × Int) → Option (Ctl Int (Int × Int))
  | (vc6, t87) => (if (decide (t87 < (l.length : Int))) then ((idx l t87).bind fun x => ((crc_More vc6 x).bind fun y => (some (.go (y, (IntKind.wrap .i64 (t87 + 1))))))) else (early (some vc6)))

def crc_Sum (l : (List (List Int))) : Option Int :=
  ((loopN (crc_Sum_L1 l) fuel (0, 0)).bind fun vc => (some vc))

def crc_Four (vc : Int) : Option (List Int) :=
  (some ([(IntKind.wrap .u8 vc), (IntKind.wrap .u8 (shrI vc 8)), (IntKind.wrap .u8 (shrI vc 16)), (IntKind.wrap .u8 (shrI vc 24))] : (List Int)))

def crc_Seal (b : (List Int)) : Option (List Int) :=
  ((app 1 ([] : (List Int)) b).bind fun m => ((crc_Sum ([b] : (List (List Int)))).bind fun y => ((crc_Four y).bind fun y1 => ((app 1 m y1).bind fun m3 => (some m3)))))

def wal_num_L1 (n : Int) (m : (List Int)) : (Int × (List Int)) → Option (Ctl (List Int) (Int × (List Int)))
  | (t814, me15) => (if (decide (t814 < (m.length : Int))) then ((cnt .u64 (IntKind.wrap .i64 (8 * t814))).bind fun n21 => ((idx me15 t814).bind fun x => ((updL me15 t814 (IntKind.wrap .u8 (shrI n n21))).bind fun m22 => (some (.go ((IntKind.wrap .i64 (t814 + 1)), m22)))))) else (early (some me15)))

def wal_num (n : Int) : Option (List Int) :=
  ((mks 1 0 8).bind fun m => ((loopN (wal_num_L1 n m) fuel (0, m)).bind fun me => (some me)))

def slices_Grow_Lbyte_byte_nil (n : Int) : Option (List Int) :=
  (if (decide (n < 0)) then none else (if (decide ((IntKind.wrap .i64 (n - (IntKind.wrap .i64 (0 - 0)))) > 0)) then ((slc ([] : (List Int)) 0 0).bind fun m => ((mkz 1 (IntKind.wrap .i64 (n - (IntKind.wrap .i64 (0 - 0))))).bind fun u => (some ([] : (List Int))))) else (some ([] : (List Int)))))

def slices_Concat_Lbyte_byte_L1 (slices : (List (List Int))) : (Int × Int) → Option (Ctl Int (Int × Int))
  | (size6, t117) => (if (decide (t117 < (slices.length : Int))) then ((idx slices t117).bind fun x => (if (decide ((IntKind.wrap .i64 (size6 + (x.length : Int))) < 0)) then none else (some (.go ((IntKind.wrap .i64 (size6 + (x.length : Int))), (IntKind.wrap .i64 (t117 + 1))))))) else (early (some size6)))

def slices_Concat_Lbyte_byte_L2 (slices : (List (List Int))) : ((List Int) × Int) → Option (Ctl (List Int) ((List Int) × Int))
  | (newslice29, t2731) => (if (decide (t2731 < (slices.length : Int))) then ((idx slices t2731).bind fun x39 => ((app 1 newslice29 x39).bind fun m => (some (.go (m, (IntKind.wrap .i64 (t2731 + 1))))))) else (early (some newslice29)))

def slices_Concat_Lbyte_byte (slices : (List (List Int))) : Option (List Int) :=
  ((loopN (slices_Concat_Lbyte_byte_L1 slices) fuel (0, 0)).bind fun size => ((slices_Grow_Lbyte_byte_nil size).bind fun y => ((loopN (slices_Concat_Lbyte_byte_L2 slices) fuel (y, 0)).bind fun newslice => (some newslice))))

def pack_Join (l : (List (List Int))) : Option (List Int) :=
  ((slices_Concat_Lbyte_byte l).bind fun y => (some y))

def pdisk_Disk_dead (d : Pdisk_Disk) : Option (Bool × Pdisk_Disk) :=
  (if (decide (d.power > 0)) then (some (false, (Pdisk_Disk.mk d.n d.sure d.now d.l (IntKind.wrap .i64 (d.power - 1))))) else (some ((d.power == 0), d)))

def pdisk_Disk_Write (d : Pdisk_Disk) (i : Int) (b : (List Int)) : Option (Int × Pdisk_Disk) :=
  ((if (decide (i < 0)) then (some true) else (some (decide (i ≥ d.n)))).bind fun t8 => (if t8 then (some (25, d)) else (if (decide ((b.length : Int) > 64)) then (some (22, d)) else ((pdisk_Disk_dead d).bind fun (y, y121) => (if y then (some (26, y121)) else ((mks 1 0 64).bind fun m => ((if (decide ((y121.l.length : Int) < 64)) then ((app 32 y121.l ([(Pdisk_write.mk i (cpyL m 0 m.length b))] : (List Pdisk_write))).bind fun m214 => (some m214)) else (some y121.l)).bind fun mpd_l => (some (0, (Pdisk_Disk.mk y121.n y121.sure (mset y121.now i (cpyL m 0 m.length b)) mpd_l y121.power))))))))))

def wal_Append_L1 (a3 : Int) : (Int × (List Int) × Pdisk_Disk) → Option (Ctl (Ctl (Int × Int × Pdisk_Disk) (Int × Pdisk_Disk)) (Int × (List Int) × Pdisk_Disk))
  | (t119, t1220, mpa021) => (if (decide ((t1220.length : Int) > 0)) then ((mks 1 0 48).bind fun m => ((slc t1220 ((min t1220.length m.length : Nat) : Int) (t1220.length : Int)).bind fun m37 => ((wal_num a3).bind fun y41 => ((pack_Join ([y41, (cpyL m 0 m.length t1220), y41] : (List (List Int)))).bind fun y43 => ((pdisk_Disk_Write mpa021 t119 y43).bind fun (y45, y46) => (if (y45 != 0) then (early (early (some (0, y45, y46)))) else (some (.go ((IntKind.wrap .i64 (t119 + 1)), m37, y46))))))))) else (early (some (.go (t119, mpa021)))))

def wal_Append (a0 : Pdisk_Disk) (a1 : Int) (a2 : Int) (a3 : Int) (a4 : (List Int)) : Option (Int × Int × Pdisk_Disk) :=
  (if (decide ((a4.length : Int) > 65535)) then (some (0, 22, a0)) else ((if (decide (a1 < 0)) then (some true) else (if (decide (a1 > a2)) then (some true) else ((wal_Need ([a4] : (List (List Int)))).bind fun y => (some (decide (y > (IntKind.wrap .i64 (a2 - a1)))))))).bind fun t22 => (if t22 then (some (0, 27, a0)) else ((pack_Lump a4).bind fun y3 => ((crc_Seal y3).bind fun y5 => (kont (loopN (wal_Append_L1 a3) fuel (a1, y5, a0)) fun (t1, mpa0) => (some (t1, 0, mpa0))))))))

def slices_Clone_Lbyte_byte (vs : (List Int)) : Option (List Int) :=
  ((app 1 ([] : (List Int)) vs).bind fun m => (some m))

def pdisk_sectors_get (vs : (List (Int × (List Int)))) (i : Int) : Option (List Int) :=
  (mcase (mget vs i) (fun b => ((chkE b).bind fun () => ((slices_Clone_Lbyte_byte b).bind fun y => (some y)))) ((mks 1 0 64).bind fun m => (some m)))

def pdisk_Disk_Read (d : Pdisk_Disk) (i : Int) : Option (List Int) :=
  ((if (decide (i < 0)) then (some true) else (some (decide (i ≥ d.n)))).bind fun t15 => (if t15 then (some ([] : (List Int))) else (mcase (mget d.now i) (fun b => ((chkE b).bind fun () => ((slices_Clone_Lbyte_byte b).bind fun y208 => (some y208)))) ((pdisk_sectors_get d.sure i).bind fun y => (some y)))))

def bytes_Equal (a : (List Int)) (b : (List Int)) : Option Bool :=
  (some ((strOf a) == (strOf b)))

def bytes_HasPrefix (vs : (List Int)) (vprefix : (List Int)) : Option Bool :=
  ((if (decide ((vs.length : Int) ≥ (vprefix.length : Int))) then ((slc vs 0 (vprefix.length : Int)).bind fun m => ((bytes_Equal m vprefix).bind fun y => (some y))) else (some false)).bind fun t4 => (some t4))

def bytes_HasSuffix (vs : (List Int)) (suffix : (List Int)) : Option Bool :=
  ((if (decide ((vs.length : Int) ≥ (suffix.length : Int))) then ((slc vs (IntKind.wrap .i64 ((vs.length : Int) - (suffix.length : Int))) (vs.length : Int)).bind fun m => ((bytes_Equal m suffix).bind fun y => (some y))) else (some false)).bind fun t4 => (some t4))

def wal_part (d : Pdisk_Disk) (i : Int) (gen : Int) : Option ((List Int) × Bool) :=
  ((pdisk_Disk_Read d i).bind fun y => ((wal_num gen).bind fun y1 => (((bytes_HasPrefix y y1).bind fun y3 => (if (!y3) then (some true) else ((bytes_HasSuffix y y1).bind fun y5 => (if (!y5) then (some true) else (some ((y.length : Int) != 64)))))).bind fun t29 => (if t29 then (some (([] : (List Int)), false)) else ((slc y 8 56).bind fun m => (some (m, true)))))))

def pack_New (b : (List Int)) : Option Pack_Reader :=
  ((slices_Clone_Lbyte_byte b).bind fun y => (some (Pack_Reader.mk (Pack_rest.mk y 0))))

def pack_number_L1 (b : (List Int)) : (Int × Int) → Option (Ctl (Ctl (Int × Int × Int) Unit) (Int × Int))
  | (n5, t106) => (if (decide (t106 < (b.length : Int))) then ((idx b t106).bind fun x => ((if (t106 == 9) then (some (decide (x > 1))) else (some false)).bind fun t20 => (if t20 then (early (early (some (0, 0, 20)))) else ((cnt .u64 (IntKind.wrap .i64 (7 * t106))).bind fun n15 => (if ((Go.bits .and .u8 x 128) != 0) then (some (.go ((Go.bits .or .u64 n5 (shlI .u64 (IntKind.wrap .u64 (Go.bits .andNot .u8 x 128)) n15)), (IntKind.wrap .i64 (t106 + 1))))) else ((if (decide (t106 > 0)) then (some (x == 0)) else (some false)).bind fun t37 => (if t37 then (early (early (some (0, 0, 20)))) else (early (early (some ((Go.bits .or .u64 n5 (shlI .u64 (IntKind.wrap .u64 (Go.bits .andNot .u8 x 128)) n15)), (IntKind.wrap .i64 (t106 + 1)), 0))))))))))) else (early (some (.go ()))))

def pack_number (b : (List Int)) : Option (Int × Int × Int) :=
  (kont (loopN (pack_number_L1 b) fuel (0, 0)) fun () => (some (0, 0, 21)))

def pack_rest_fail (vr : Pack_rest) (e : Int) : Option Pack_rest :=
  (some (Pack_rest.mk ([] : (List Int)) e))

def pack_Reader_Num (vr : Pack_Reader) (most : Int) : Option (Int × Pack_Reader) :=
  (if (vr.rest.e != 0) then (some (0, vr)) else ((pack_number vr.rest.b).bind fun (y, y1, y2) => (if (y2 != 0) then ((pack_rest_fail vr.rest y2).bind fun y4 => (some (0, (Pack_Reader.mk y4)))) else (if (decide (y > most)) then ((pack_rest_fail vr.rest 22).bind fun y7 => (some (0, (Pack_Reader.mk y7)))) else ((slc vr.rest.b y1 (vr.rest.b.length : Int)).bind fun m => (some (y, (Pack_Reader.mk (Pack_rest.mk m vr.rest.e)))))))))

def pack_rest_Left (vr : Pack_rest) : Option Int :=
  (some (vr.b.length : Int))

def pack_rest_Err (vr : Pack_rest) : Option Int :=
  (some vr.e)

def crc_Open (b : (List Int)) : Option ((List Int) × Bool) :=
  ((if (decide ((IntKind.wrap .i64 ((b.length : Int) - 4)) < 0)) then (some true) else ((slc b (IntKind.wrap .i64 ((b.length : Int) - 4)) (b.length : Int)).bind fun m => ((slc b 0 (IntKind.wrap .i64 ((b.length : Int) - 4))).bind fun m1 => ((crc_Sum ([m1] : (List (List Int)))).bind fun y => ((crc_Four y).bind fun y2 => ((bytes_Equal m y2).bind fun y4 => (some (!y4)))))))).bind fun t22 => (if t22 then (some (([] : (List Int)), false)) else ((slc b 0 (IntKind.wrap .i64 ((b.length : Int) - 4))).bind fun m6 => ((app 1 ([] : (List Int)) m6).bind fun m7 => (some (m7, true))))))

def wal_one_L1 (a0 : Pdisk_Disk) (a1 : Int) (a3 : Int) (y : (List Int)) (y9 : Int) (y16 : Int) : ((List Int) × Int) → Option (Ctl (Ctl ((List Int) × Int × Bool) (List Int)) ((List Int) × Int))
  | (t1143, t1744) => (if (decide ((t1143.length : Int) < (IntKind.wrap .i64 ((IntKind.wrap .i64 ((IntKind.wrap .i64 ((y.length : Int) - y16)) + (IntKind.wrap .i64 y9))) + 4)))) then ((wal_part a0 (IntKind.wrap .i64 (a1 + t1744)) a3).bind fun (y52, y53) => (if (!y53) then (early (early (some (([] : (List Int)), 0, false)))) else ((pack_Join ([t1143, y52] : (List (List Int)))).bind fun y56 => (some (.go (y56, (IntKind.wrap .i64 (t1744 + 1)))))))) else (early (some (.go t1143))))

def wal_one (a0 : Pdisk_Disk) (a1 : Int) (a2 : Int) (a3 : Int) : Option ((List Int) × Int × Bool) :=
  ((if (decide (a1 < 0)) then (some true) else (some (decide (a1 ≥ a2)))).bind fun t27 => (if t27 then (some (([] : (List Int)), 0, false)) else ((wal_part a0 a1 a3).bind fun (y, y1) => (if (!y1) then (some (([] : (List Int)), 0, false)) else ((pack_New y).bind fun y3 => ((pack_Reader_Num y3 65535).bind fun (y9, y10) => ((pack_rest_Left y10.rest).bind fun y16 => (((pack_rest_Err y10.rest).bind fun y23 => (if (y23 != 0) then (some true) else ((wal_sectors (IntKind.wrap .i64 ((IntKind.wrap .i64 ((IntKind.wrap .i64 ((y.length : Int) - y16)) + (IntKind.wrap .i64 y9))) + 4))).bind fun y26 => (some (decide (y26 > (IntKind.wrap .i64 (a2 - a1)))))))).bind fun t65 => (if t65 then (some (([] : (List Int)), 0, false)) else (kont (loopN (wal_one_L1 a0 a1 a3 y y9 y16) fuel (y, 1)) fun t11 => ((slc t11 0 (IntKind.wrap .i64 ((IntKind.wrap .i64 ((IntKind.wrap .i64 ((y.length : Int) - y16)) + (IntKind.wrap .i64 y9))) + 4))).bind fun m => ((crc_Open m).bind fun (y58, y59) => (if (!y59) then (some (([] : (List Int)), 0, false)) else ((slc y58 (IntKind.wrap .i64 ((y.length : Int) - y16)) (y58.length : Int)).bind fun m62 => ((wal_sectors (IntKind.wrap .i64 ((IntKind.wrap .i64 ((IntKind.wrap .i64 ((y.length : Int) - y16)) + (IntKind.wrap .i64 y9))) + 4))).bind fun y63 => (some (m62, y63, true)))))))))))))))))

def wal_Scan_L1 (d : Pdisk_Disk) (to : Int) (gen : Int) : (Int × (List (List Int))) → Option (Ctl (Int × (List (List Int))) (Int × (List (List Int))))
  | (vfrom14, out15) => ((wal_one d vfrom14 to gen).bind fun (y, y24, y25) => (if (!y25) then (early (some (vfrom14, out15))) else ((app 24 out15 ([y] : (List (List Int)))).bind fun m => (some (.go ((IntKind.wrap .i64 (vfrom14 + y24)), m))))))

def wal_Scan (d : Pdisk_Disk) (vfrom : Int) (to : Int) (gen : Int) : Option ((List (List Int)) × Int) :=
  ((loopN (wal_Scan_L1 d to gen) fuel (vfrom, ([] : (List (List Int))))).bind fun (vfrom1, out) => (some (out, vfrom1)))

def mementolaw5_known : Option Bool :=
  ((pdisk_New 9).bind fun y => ((wal_Append y 2 9 7 ([97, 98] : (List Int))).bind fun (y10, y11, y12) => ((mks 1 0 100).bind fun m => ((wal_Append y12 y10 9 7 m).bind fun (y17, y18, y19) => ((wal_Append y19 y17 8 7 m).bind fun (y24, y25, y26) => ((wal_Scan y26 2 9 7).bind fun (y31, y32) => ((wal_Scan y26 2 9 8).bind fun (y34, y35) => ((if (y11 == 0) then (if (y10 == 3) then (if (y18 == 0) then (if (y17 == 6) then (if (y25 == 27) then (if ((y31.length : Int) == 2) then ((idx y31 0).bind fun x => (if ((strOf x) == ([97, 98] : List UInt8)) then (if (y32 == 6) then (if ((y34.length : Int) == 0) then (if (y35 == 2) then ((wal_Need ([([97, 98] : (List Int)), m] : (List (List Int)))).bind fun y60 => (some (y60 == 4))) else (some false)) else (some false)) else (some false)) else (some false))) else (some false)) else (some false)) else (some false)) else (some false)) else (some false)) else (some false)).bind fun t0 => (some t0)))))))))

def mementoref3_sector_L1 : (List Int) → Option (Ctl (List Int) (List Int))
  | vs15 => (if (decide ((vs15.length : Int) < 64)) then ((app 1 vs15 ([0] : (List Int))).bind fun m22 => (some (.go m22))) else (early (some vs15)))

def mementoref3_sector (b : (List Int)) : Option (List Int) :=
  ((app 1 ([] : (List Int)) b).bind fun m => ((loopN (mementoref3_sector_L1) fuel m).bind fun vs => (some vs)))

def mementoref3_NewDisk_L1 (n : Int) : (Int × (List (List Int))) → Option (Ctl (List (List Int)) (Int × (List (List Int))))
  | (i16, me_S17) => (if (decide (i16 < (minI n 1048576))) then ((mementoref3_sector ([] : (List Int))).bind fun y => ((app 24 me_S17 ([y] : (List (List Int)))).bind fun m => (some (.go ((IntKind.wrap .i64 (i16 + 1)), m))))) else (early (some me_S17)))

def mementoref3_NewDisk (n : Int) : Option Mementoref3_Disk :=
  ((loopN (mementoref3_NewDisk_L1 n) fuel (0, ([] : (List (List Int))))).bind fun me_S => (some (Mementoref3_Disk.mk me_S ([] : (List Mementoref3_write)) (-1))))

def mementohelp_Place (k : Int) (n : Int) : Option Int :=
  ((remI k n).bind fun x => ((if (decide (x < 0)) then (some (IntKind.wrap .i64 (x + n))) else (some x)).bind fun k1 => (some k1)))

def mementoref1_Put_L2 : ((List Int) × Int) → Option (Ctl ((List Int) × Int) ((List Int) × Int))
  | (b36, n38) => (if (decide (n38 ≥ 128)) then ((app 1 b36 ([(Go.bits .or .u8 (IntKind.wrap .u8 n38) 128)] : (List Int))).bind fun m => (some (.go (m, (shrI n38 7))))) else (early (some (b36, n38))))

def mementoref1_Put_L1 (l : (List Int)) : ((List Int) × Int) → Option (Ctl (List Int) ((List Int) × Int))
  | (b9, i11) => (if (decide (i11 < (l.length : Int))) then ((idx l i11).bind fun x => ((loopN (mementoref1_Put_L2) fuel (b9, x)).bind fun (b17, n) => ((app 1 b17 ([(IntKind.wrap .u8 n)] : (List Int))).bind fun m50 => (some (.go (m50, (IntKind.wrap .i64 (i11 + 1)))))))) else (early (some b9)))

def mementoref1_Put (l : (List Int)) : Option (List Int) :=
  ((loopN (mementoref1_Put_L1 l) fuel (([] : (List Int)), 0)).bind fun b => (some b))

def mementoref1_Lump (b : (List Int)) : Option (List Int) :=
  ((mementoref1_Put ([(IntKind.wrap .u64 (b.length : Int))] : (List Int))).bind fun y => ((app 1 y b).bind fun m => (some m)))

def mementoref1_row_L1 : (Int × Int) → Option (Ctl Int (Int × Int))
  | (vc8, k9) => (if (decide (k9 < 8)) then ((if ((Go.bits .and .u32 vc8 1) == 1) then (some (Go.bits .xor .u32 (shrI vc8 1) 2197175160)) else (some (shrI vc8 1))).bind fun vc14 => (some (.go (vc14, (IntKind.wrap .i64 (k9 + 1)))))) else (early (some vc8)))

def mementoref1_row (vc : Int) : Option Int :=
  ((loopN (mementoref1_row_L1) fuel (vc, 0)).bind fun vc1 => (some vc1))

def mementoref1_More_L1 (b : (List Int)) : (Int × Int) → Option (Ctl Int (Int × Int))
  | (vc7, i8) => (if (decide (i8 < (b.length : Int))) then ((idx b i8).bind fun x => ((mementoref1_row (Go.bits .xor .u32 (Go.bits .and .u32 vc7 255) (IntKind.wrap .u32 x))).bind fun y => (some (.go ((Go.bits .xor .u32 y (shrI vc7 8)), (IntKind.wrap .i64 (i8 + 1))))))) else (early (some vc7)))

def mementoref1_More (vc : Int) (b : (List Int)) : Option Int :=
  ((loopN (mementoref1_More_L1 b) fuel ((notI .u32 vc), 0)).bind fun vc1 => (some (notI .u32 vc1)))

def mementoref1_Sum (b : (List Int)) : Option Int :=
  ((mementoref1_More 0 b).bind fun y => (some y))

def mementoref1_Four (vc : Int) : Option (List Int) :=
  (some ([(IntKind.wrap .u8 vc), (IntKind.wrap .u8 (shrI vc 8)), (IntKind.wrap .u8 (shrI vc 16)), (IntKind.wrap .u8 (shrI vc 24))] : (List Int)))

def mementoref1_Seal (b : (List Int)) : Option (List Int) :=
  ((app 1 ([] : (List Int)) b).bind fun m => ((mementoref1_Sum b).bind fun y => ((mementoref1_Four y).bind fun y1 => ((app 1 m y1).bind fun m3 => (some m3)))))

def mementoref3_eight_L1 (n : Int) : ((List Int) × Int) → Option (Ctl (List Int) ((List Int) × Int))
  | (b9, i11) => (if (decide (i11 < 8)) then ((cnt .u64 (IntKind.wrap .i64 (8 * i11))).bind fun n17 => ((app 1 b9 ([(IntKind.wrap .u8 (shrI n n17))] : (List Int))).bind fun m => (some (.go (m, (IntKind.wrap .i64 (i11 + 1))))))) else (early (some b9)))

def mementoref3_eight (n : Int) : Option (List Int) :=
  ((loopN (mementoref3_eight_L1 n) fuel (([] : (List Int)), 0)).bind fun b => (some b))

def mementoref3_record_L1 : (List Int) → Option (Ctl (List Int) (List Int))
  | b17 => (if ((Int.tmod (b17.length : Int) 48) != 0) then ((app 1 b17 ([0] : (List Int))).bind fun m => (some (.go m))) else (early (some b17)))

def mementoref3_record_L2 (gen : Int) (b : (List Int)) : ((List (List Int)) × Int) → Option (Ctl (List (List Int)) ((List (List Int)) × Int))
  | (out46, i48) => (if (decide (i48 < (b.length : Int))) then ((mementoref3_eight gen).bind fun y59 => ((slc b i48 (IntKind.wrap .i64 (i48 + 48))).bind fun m70 => ((app 1 y59 m70).bind fun m71 => ((app 1 m71 y59).bind fun m81 => ((app 24 out46 ([m81] : (List (List Int)))).bind fun m91 => (some (.go (m91, (IntKind.wrap .i64 (i48 + 48)))))))))) else (early (some out46)))

def mementoref3_record (gen : Int) (body : (List Int)) : Option (List (List Int)) :=
  ((mementoref1_Lump body).bind fun y => ((mementoref1_Seal y).bind fun y1 => ((loopN (mementoref3_record_L1) fuel y1).bind fun b => ((loopN (mementoref3_record_L2 gen b) fuel (([] : (List (List Int))), 0)).bind fun out => (some out)))))

def mementoref3_Need_L1 (bodies : (List (List Int))) : (Int × Int) → Option (Ctl Int (Int × Int))
  | (n6, i7) => (if (decide (i7 < (bodies.length : Int))) then ((idx bodies i7).bind fun x => ((mementoref3_record 0 x).bind fun y => (some (.go ((IntKind.wrap .i64 (n6 + (y.length : Int))), (IntKind.wrap .i64 (i7 + 1))))))) else (early (some n6)))

def mementoref3_Need (bodies : (List (List Int))) : Option Int :=
  ((loopN (mementoref3_Need_L1 bodies) fuel (0, 0)).bind fun n => (some n))

def mementoref3_Disk_spend (d : Mementoref3_Disk) : Option (Bool × Mementoref3_Disk) :=
  (if (decide (d.left < 0)) then (some (true, d)) else (if (d.left == 0) then (some (false, d)) else (some (true, (Mementoref3_Disk.mk d.S d.l (IntKind.wrap .i64 (d.left - 1)))))))

def mementoref3_Disk_Write (d : Mementoref3_Disk) (i : Int) (b : (List Int)) : Option (Int × Mementoref3_Disk) :=
  ((if (decide (i < 0)) then (some true) else (some (decide (i ≥ (d.S.length : Int))))).bind fun t17 => (if t17 then (some (25, d)) else (if (decide ((b.length : Int) > 64)) then (some (22, d)) else ((mementoref3_Disk_spend d).bind fun (y, y2) => (if (!y) then (some (26, y2)) else ((app 32 ([] : (List Mementoref3_write)) y2.l).bind fun m => ((mementoref3_sector b).bind fun y11 => ((app 32 m ([(Mementoref3_write.mk i y11)] : (List Mementoref3_write))).bind fun m13 => (some (0, (Mementoref3_Disk.mk y2.S m13 y2.left)))))))))))

def mementoref3_Append_L1 (vfrom : Int) (y : Int) (y3 : (List (List Int))) : (Int × Mementoref3_Disk) → Option (Ctl (Ctl (Int × Int × Mementoref3_Disk) Mementoref3_Disk) (Int × Mementoref3_Disk))
  | (i16, mpd17) => (if (decide (i16 < y)) then ((idx y3 i16).bind fun x => ((mementoref3_Disk_Write mpd17 (IntKind.wrap .i64 (vfrom + i16)) x).bind fun (y24, y25) => (if (y24 != 0) then (early (early (some (0, y24, y25)))) else (some (.go ((IntKind.wrap .i64 (i16 + 1)), y25)))))) else (early (some (.go mpd17))))

def mementoref3_Append (d : Mementoref3_Disk) (vfrom : Int) (to : Int) (gen : Int) (body : (List Int)) : Option (Int × Int × Mementoref3_Disk) :=
  (if (decide ((body.length : Int) > 65535)) then (some (0, 22, d)) else ((mementoref3_Need ([body] : (List (List Int)))).bind fun y => ((if (decide (vfrom < 0)) then (some true) else (if (decide (vfrom > to)) then (some true) else (some (decide (y > (IntKind.wrap .i64 (to - vfrom))))))).bind fun t35 => (if t35 then (some (0, 27, d)) else ((mementoref3_record gen body).bind fun y3 => (kont (loopN (mementoref3_Append_L1 vfrom y y3) fuel (0, d)) fun mpd => (some ((IntKind.wrap .i64 (vfrom + y)), 0, mpd))))))))

def mementoref3_Disk_Read_L1 (d : Mementoref3_Disk) (i : Int) : ((List Int) × Int) → Option (Ctl (List Int) ((List Int) × Int))
  | (b13, k14) => (if (decide (k14 < (d.l.length : Int))) then (((idx d.l k14).bind fun x25 => (if (x25.i == i) then (some x25.b) else (some b13))).bind fun b20 => (some (.go (b20, (IntKind.wrap .i64 (k14 + 1)))))) else (early (some b13)))

def mementoref3_Disk_Read (d : Mementoref3_Disk) (i : Int) : Option (List Int) :=
  ((if (decide (i < 0)) then (some true) else (some (decide (i ≥ (d.S.length : Int))))).bind fun t17 => (if t17 then (some ([] : (List Int))) else ((idx d.S i).bind fun x => ((loopN (mementoref3_Disk_Read_L1 d i) fuel (x, 0)).bind fun b => ((app 1 ([] : (List Int)) b).bind fun m => (some m))))))

def mementoref3_number_L1 (b : (List Int)) : (Int × Int) → Option (Ctl Int (Int × Int))
  | (n6, i7) => (if (decide (i7 ≥ 0)) then ((idx b i7).bind fun x => (some (.go ((Go.bits .or .u64 (shlI .u64 n6 8) (IntKind.wrap .u64 x)), (IntKind.wrap .i64 (i7 - 1)))))) else (early (some n6)))

def mementoref3_number (b : (List Int)) : Option Int :=
  ((loopN (mementoref3_number_L1 b) fuel (0, 7)).bind fun n => (some n))

def mementoref1_Reader_fail (vr : Mementoref1_Reader) (e : Int) : Option Mementoref1_Reader :=
  (some (Mementoref1_Reader.mk ([] : (List Int)) e))

def mementoref1_Reader_Num_L1 (a0 : Mementoref1_Reader) (a1 : Int) : (Int × Int) → Option (Ctl (Ctl (Int × Mementoref1_Reader) Unit) (Int × Int))
  | (t57, t68) => (if (decide (t68 < (a0.B.length : Int))) then ((idx a0.B t68).bind fun x => ((if (t68 == 9) then (some (decide (x > 1))) else (some false)).bind fun t34 => (if t34 then ((mementoref1_Reader_fail a0 20).bind fun y => (early (early (some (0, y))))) else ((cnt .u64 (IntKind.wrap .i64 (7 * t68))).bind fun n => (if (decide (x < 128)) then ((if (decide (t68 > 0)) then (some (x == 0)) else (some false)).bind fun t52 => (if t52 then ((mementoref1_Reader_fail a0 20).bind fun y30 => (early (early (some (0, y30))))) else (if (decide ((Go.bits .or .u64 t57 (shlI .u64 (IntKind.wrap .u64 (Go.bits .and .u8 x 127)) n)) > a1)) then ((mementoref1_Reader_fail a0 22).bind fun y36 => (early (early (some (0, y36))))) else ((slc a0.B (IntKind.wrap .i64 (t68 + 1)) (a0.B.length : Int)).bind fun m => (early (early (some ((Go.bits .or .u64 t57 (shlI .u64 (IntKind.wrap .u64 (Go.bits .and .u8 x 127)) n)), (Mementoref1_Reader.mk m a0.E))))))))) else (some (.go ((Go.bits .or .u64 t57 (shlI .u64 (IntKind.wrap .u64 (Go.bits .and .u8 x 127)) n)), (IntKind.wrap .i64 (t68 + 1)))))))))) else (early (some (.go ()))))

def mementoref1_Reader_Num (a0 : Mementoref1_Reader) (a1 : Int) : Option (Int × Mementoref1_Reader) :=
  (if (a0.E != 0) then (some (0, a0)) else (kont (loopN (mementoref1_Reader_Num_L1 a0 a1) fuel (0, 0)) fun () => ((mementoref1_Reader_fail a0 21).bind fun y44 => (some (0, y44)))))

def mementoref1_Open (b : (List Int)) : Option ((List Int) × Bool) :=
  ((if (decide ((IntKind.wrap .i64 ((b.length : Int) - 4)) < 0)) then (some true) else ((slc b 0 (IntKind.wrap .i64 ((b.length : Int) - 4))).bind fun m => ((mementoref1_Sum m).bind fun y => ((mementoref1_Four y).bind fun y1 => ((slc b (IntKind.wrap .i64 ((b.length : Int) - 4)) (b.length : Int)).bind fun m3 => (some ((strOf y1) != (strOf m3)))))))).bind fun t22 => (if t22 then (some (([] : (List Int)), false)) else ((slc b 0 (IntKind.wrap .i64 ((b.length : Int) - 4))).bind fun m4 => (some (m4, true)))))

def mementoref3_one_L1 (a0 : Mementoref3_Disk) (a1 : Int) (a2 : Int) (a3 : Int) : ((List Int) × Int) → Option (Ctl (Ctl ((List Int) × Int) Unit) ((List Int) × Int))
  | (t108, t1110) => (if (decide (t1110 < a2)) then ((mementoref3_Disk_Read a0 t1110).bind fun y => (((mementoref3_number y).bind fun y24 => (if (y24 != a3) then (some true) else ((slc y 56 (y.length : Int)).bind fun m => ((mementoref3_number m).bind fun y26 => (some (y26 != a3)))))).bind fun t37 => (if t37 then (early (early (some (([] : (List Int)), 0)))) else ((slc y 8 56).bind fun m29 => ((app 1 t108 m29).bind fun m30 => ((mementoref1_Reader_Num (Mementoref1_Reader.mk m30 0) 65535).bind fun (y45, y46) => (if (y46.E != 0) then (early (early (some (([] : (List Int)), 0)))) else (if (decide ((m30.length : Int) < (IntKind.wrap .i64 ((IntKind.wrap .i64 ((IntKind.wrap .i64 ((m30.length : Int) - (y46.B.length : Int))) + (IntKind.wrap .i64 y45))) + 4)))) then (some (.go (m30, (IntKind.wrap .i64 (t1110 + 1))))) else ((slc m30 0 (IntKind.wrap .i64 ((IntKind.wrap .i64 ((IntKind.wrap .i64 ((m30.length : Int) - (y46.B.length : Int))) + (IntKind.wrap .i64 y45))) + 4))).bind fun m55 => ((mementoref1_Open m55).bind fun (y56, y57) => (if (!y57) then (early (early (some (([] : (List Int)), 0)))) else ((slc y56 (IntKind.wrap .i64 ((y56.length : Int) - (IntKind.wrap .i64 y45))) (y56.length : Int)).bind fun m60 => ((app 1 ([] : (List Int)) m60).bind fun m61 => (early (early (some (m61, (IntKind.wrap .i64 ((IntKind.wrap .i64 (t1110 + 1)) - a1))))))))))))))))))) else (early (some (.go ()))))

def mementoref3_one (a0 : Mementoref3_Disk) (a1 : Int) (a2 : Int) (a3 : Int) : Option ((List Int) × Int) :=
  (kont (loopN (mementoref3_one_L1 a0 a1 a2 a3) fuel (([] : (List Int)), a1)) fun () => (some (([] : (List Int)), 0)))

def mementoref3_Scan_L1 (d : Mementoref3_Disk) (to : Int) (gen : Int) : (Int × (List (List Int))) → Option (Ctl ((List (List Int)) × Int) (Int × (List (List Int))))
  | (vfrom6, out7) => ((mementoref3_one d vfrom6 (minI to (d.S.length : Int)) gen).bind fun (y, y14) => (if (y14 == 0) then (early (some (out7, vfrom6))) else ((app 24 out7 ([y] : (List (List Int)))).bind fun m => (some (.go ((IntKind.wrap .i64 (vfrom6 + y14)), m))))))

def mementoref3_Scan (d : Mementoref3_Disk) (vfrom : Int) (to : Int) (gen : Int) : Option ((List (List Int)) × Int) :=
  (if (decide (vfrom < 0)) then (some (([] : (List (List Int))), vfrom)) else loopN (mementoref3_Scan_L1 d to gen) fuel (vfrom, ([] : (List (List Int)))))

def mementohelp_Bodies_L1 (a : (List (List Int))) (b : (List (List Int))) : Int → Option (Ctl (Ctl Bool Unit) Int)
  | i5 => (if (decide (i5 < (a.length : Int))) then ((idx a i5).bind fun x => ((idx b i5).bind fun x11 => (if ((strOf x) != (strOf x11)) then (early (early (some false))) else (some (.go (IntKind.wrap .i64 (i5 + 1))))))) else (early (some (.go ()))))

def mementohelp_Bodies (a : (List (List Int))) (b : (List (List Int))) : Option Bool :=
  (if ((a.length : Int) != (b.length : Int)) then (some false) else (kont (loopN (mementohelp_Bodies_L1 a b) fuel 0) fun () => (some true)))

def mementolaw5_WalPlays_L1 (a0 : (List (List Int))) (a1 : (List Int)) (a7 : Int) (y18 : Int) : (Int × Int × Pdisk_Disk × Mementoref3_Disk) → Option (Ctl (Ctl Bool (Int × Pdisk_Disk × Mementoref3_Disk)) (Int × Int × Pdisk_Disk × Mementoref3_Disk))
  | (t2136, t2237, me38, me1139) => (if (decide (t2237 < (a0.length : Int))) then (kont ((idx a0 t2237).bind fun x => (if (decide ((x.length : Int) > 200)) then (early (early (early (some true)))) else ((idx a1 t2237).bind fun x57 => ((if ((Int.tmod t2237 5) == 4) then (some x57) else (some (IntKind.wrap .u64 ((Int.tmod x57 2) * 300)))).bind fun t23 => ((app 1 ([] : (List Int)) x).bind fun m => ((mks 1 0 (IntKind.wrap .i64 (Int.tmod a7 90))).bind fun m73 => ((app 1 m m73).bind fun m74 => ((wal_Append me38 t2136 (IntKind.wrap .i64 (10 + y18)) t23 m74).bind fun (y84, y85, y86) => ((mementoref3_Append me1139 t2136 (IntKind.wrap .i64 (10 + y18)) t23 m74).bind fun (y93, y94, y95) => ((if (y84 != y93) then (some true) else (if (y85 != y94) then (some true) else ((wal_Need ([m74, x] : (List (List Int)))).bind fun y109 => ((mementoref3_Need ([m74, x] : (List (List Int)))).bind fun y111 => (some (y109 != y111)))))).bind fun t147 => (if t147 then (early (early (early (some false)))) else (if (y94 == 0) then (some (.go (y93, y86, y95))) else (some (.go (t2136, y86, y95))))))))))))))) fun (t2147, me48, me1149) => (some (.go (t2147, (IntKind.wrap .i64 (t2237 + 1)), me48, me1149)))) else (early (some (.go (t2136, me38, me1139)))))

def mementolaw5_WalPlays_L3 (me : Pdisk_Disk) (me11 : Mementoref3_Disk) (x143 : A2_int) : Int → Option (Ctl (Ctl (Ctl (Ctl (Ctl Bool Unit) Int) Unit) Unit) Int)
  | t182183 => (if (decide (t182183 < (([0, 300] : (List Int)).length : Int))) then ((idx ([0, 300] : (List Int)) t182183).bind fun x192 => ((wal_Scan me x143.f0 x143.f1 x192).bind fun (y193, y194) => ((mementoref3_Scan me11 x143.f0 x143.f1 x192).bind fun (y196, y197) => ((if (y194 != y197) then (some true) else ((mementohelp_Bodies y193 y196).bind fun y206 => (some (!y206)))).bind fun t214 => (if t214 then (early (early (early (early (early (some false)))))) else (some (.go (IntKind.wrap .i64 (t182183 + 1))))))))) else (early (some (.go ()))))

def mementolaw5_WalPlays_L2 (a2 : Int) (a3 : Int) (y16 : Int) (y18 : Int) (t21 : Int) (me : Pdisk_Disk) (me11 : Mementoref3_Disk) : Int → Option (Ctl (Ctl Bool Unit) Int)
  | t168129 => (if (decide (t168129 < (([(A2_int.mk y16 (IntKind.wrap .i64 (10 + y18))), (A2_int.mk a2 a3), (A2_int.mk y16 20), (A2_int.mk (IntKind.wrap .i64 (y16 + 1)) (IntKind.wrap .i64 (10 + y18))), (A2_int.mk y16 t21)] : (List A2_int)).length : Int))) then (kont ((idx ([(A2_int.mk y16 (IntKind.wrap .i64 (10 + y18))), (A2_int.mk a2 a3), (A2_int.mk y16 20), (A2_int.mk (IntKind.wrap .i64 (y16 + 1)) (IntKind.wrap .i64 (10 + y18))), (A2_int.mk y16 t21)] : (List A2_int)) t168129).bind fun x143 => ((if (decide (x143.f0 > 1000)) then (some true) else (some (decide (x143.f0 < (-1000))))).bind fun t179 => (if t179 then (some (.go ())) else (kont (loopN (mementolaw5_WalPlays_L3 me me11 x143) fuel 0) fun () => (some (.go ())))))) fun () => (some (.go (IntKind.wrap .i64 (t168129 + 1))))) else (early (some (.go ()))))

def mementolaw5_WalPlays (a0 : (List (List Int))) (a1 : (List Int)) (a2 : Int) (a3 : Int) (a4 : (List Int)) (a5 : Int) (a6 : (List Int)) (a7 : Int) : Option Bool :=
  ((mementolaw5_known).bind fun y => (if (!y) then (some false) else ((if (decide ((a0.length : Int) > 8)) then (some true) else (if (decide ((a1.length : Int) < (a0.length : Int))) then (some true) else (if (decide ((a4.length : Int) > 64)) then (some true) else (some (decide ((a6.length : Int) > 64)))))).bind fun t62 => (if t62 then (some true) else ((pdisk_New 20).bind fun y4 => ((mementoref3_NewDisk 20).bind fun y8 => ((mementohelp_Place a2 8).bind fun y16 => ((mementohelp_Place a3 14).bind fun y18 => (kont (loopN (mementolaw5_WalPlays_L1 a0 a1 a7 y18) fuel (y16, 0, y4, y8)) fun (t21, me, me11) => (kont (loopN (mementolaw5_WalPlays_L2 a2 a3 y16 y18 t21 me me11) fuel 0) fun () => ((pdisk_Disk_Write me (IntKind.wrap .i64 (Int.tmod a5 20)) a4).bind fun (y209, y210) => ((mementoref3_Disk_Write me11 (IntKind.wrap .i64 (Int.tmod a5 20)) a4).bind fun (y216, y217) => ((pdisk_Disk_Write y210 (IntKind.wrap .i64 (IntKind.wrap .u8 (Int.tdiv a5 20))) a6).bind fun (y223, y224) => ((mementoref3_Disk_Write y217 (IntKind.wrap .i64 (IntKind.wrap .u8 (Int.tdiv a5 20))) a6).bind fun (y230, y231) => ((wal_Scan y224 y16 (IntKind.wrap .i64 (10 + y18)) 300).bind fun (y237, y238) => ((mementoref3_Scan y231 y16 (IntKind.wrap .i64 (10 + y18)) 300).bind fun (y240, y241) => ((if (y238 == y241) then ((mementohelp_Bodies y237 y240).bind fun y249 => (some y249)) else (some false)).bind fun t16 => (some t16))))))))))))))))))

end Go.Proofs.Yteclchefihcjkaa.Am
