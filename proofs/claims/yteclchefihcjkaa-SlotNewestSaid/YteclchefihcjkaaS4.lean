/- Functions, read as partial functions over lists. -/
import Derived.Test.YteclchefihcjkaaD1
namespace Go.Proofs.Yteclchefihcjkaa.Am
open Go
set_option linter.unusedVariables false
set_option maxRecDepth 10000

structure Pdisk_write where
  i : Int
  b : (List Int)
deriving Inhabited
def c_Pdisk_write (x : Pdisk_write) : List PV := [.sc (.int .i64 x.i), .sl 1 (x.b.map c_u8)]

structure Pdisk_Disk where
  n : Int
  sure : (List (Int × (List Int)))
  now : (List (Int × (List Int)))
  l : (List Pdisk_write)
  power : Int
deriving Inhabited

structure Slot_Slot where
  Count : Int
  Gen : Int
  Area : Int
deriving Inhabited
structure Mementoref3_Slot where
  Count : Int
  Gen : Int
  Area : Int
deriving Inhabited
structure Mementoref3_write where
  i : Int
  b : (List Int)
deriving Inhabited
structure Mementoref3_Disk where
  S : (List (List Int))
  l : (List Mementoref3_write)
  left : Int
deriving Inhabited
def pdisk_New (n : Int) : Option Pdisk_Disk :=
  (some (Pdisk_Disk.mk (minI (maxI n 0) 1048576) ([] : (List (Int × (List Int)))) ([] : (List (Int × (List Int)))) ([] : (List Pdisk_write)) (-1)))

def slices_Clone_Lbyte_byte (vs : (List Int)) : Option (List Int) :=
  ((app 1 ([] : (List Int)) vs).bind fun m => (some m))

def pdisk_sectors_get (vs : (List (Int × (List Int)))) (i : Int) : Option (List Int) :=
  (mcase (mget vs i) (fun b => ((chkE b).bind fun () => ((slices_Clone_Lbyte_byte b).bind fun y => (some y)))) ((mks 1 0 64).bind fun m => (some m)))

def pdisk_Disk_Read (d : Pdisk_Disk) (i : Int) : Option (List Int) :=
  ((if (decide (i < 0)) then (some true) else (some (decide (i ≥ d.n)))).bind fun t15 => (if t15 then (some ([] : (List Int))) else (mcase (mget d.now i) (fun b => ((chkE b).bind fun () => ((slices_Clone_Lbyte_byte b).bind fun y208 => (some y208)))) ((pdisk_sectors_get d.sure i).bind fun y => (some y)))))

def slot_read_L1 (m : (List Int)) : (Int × Int) → Option (Ctl Int (Int × Int))
  | (n6, t97) => (if (decide (t97 < (m.length : Int))) then ((idx m t97).bind fun x => ((cnt .u64 (IntKind.wrap .i64 (8 * t97))).bind fun n11 => (some (.go ((Go.bits .or .u64 n6 (shlI .u64 (IntKind.wrap .u64 x) n11)), (IntKind.wrap .i64 (t97 + 1))))))) else (early (some n6)))

def slot_read (b : (List Int)) : Option Int :=
  ((slc b 0 8).bind fun m => ((loopN (slot_read_L1 m) fuel (0, 0)).bind fun n => (some n)))

def slot_num_L1 (n : Int) (m : (List Int)) : (Int × (List Int)) → Option (Ctl (List Int) (Int × (List Int)))
  | (t814, me15) => (if (decide (t814 < (m.length : Int))) then ((cnt .u64 (IntKind.wrap .i64 (8 * t814))).bind fun n21 => ((idx me15 t814).bind fun x => ((updL me15 t814 (IntKind.wrap .u8 (shrI n n21))).bind fun m22 => (some (.go ((IntKind.wrap .i64 (t814 + 1)), m22)))))) else (early (some me15)))

def slot_num (n : Int) : Option (List Int) :=
  ((mks 1 0 8).bind fun m => ((loopN (slot_num_L1 n m) fuel (0, m)).bind fun me => (some me)))

def slot_Put (vs : Slot_Slot) : Option (List Int) :=
  ((mks 1 0 64).bind fun m => ((slot_num vs.Count).bind fun y => ((slcH m.length 8 ((m.length : Nat) : Int)).bind fun (o, k) => ((slot_num vs.Gen).bind fun y13 => ((slcH m.length 16 ((m.length : Nat) : Int)).bind fun (o20, k21) => ((slot_num (IntKind.wrap .u64 (maxI vs.Area 0))).bind fun y23 => ((slcH m.length (IntKind.wrap .i64 ((m.length : Int) - 8)) ((m.length : Nat) : Int)).bind fun (o30, k31) => (some (cpyL (cpyL (cpyL (cpyL m 0 m.length y) o k y13) o20 k21 y23) o30 k31 y)))))))))

def bytes_Equal (a : (List Int)) (b : (List Int)) : Option Bool :=
  (some ((strOf a) == (strOf b)))

def slot_Read (b : (List Int)) : Option (Slot_Slot × Bool) :=
  (if ((b.length : Int) != 64) then (some ((Slot_Slot.mk 0 0 0), false)) else ((slc b 16 (b.length : Int)).bind fun m => ((slot_read m).bind fun y => ((slot_read b).bind fun y4 => ((slc b 8 (b.length : Int)).bind fun m6 => ((slot_read m6).bind fun y7 => ((if (decide (y4 < 1)) then (some true) else (if (decide (y > 1)) then (some true) else ((slot_Put (Slot_Slot.mk y4 y7 (IntKind.wrap .i64 (minI y 2)))).bind fun y24 => ((bytes_Equal b y24).bind fun y26 => (some (!y26)))))).bind fun t35 => (if t35 then (some ((Slot_Slot.mk 0 0 0), false)) else (some ((Slot_Slot.mk y4 y7 (IntKind.wrap .i64 (minI y 2))), true))))))))))

def slot_Choose (d : Pdisk_Disk) : Option (Slot_Slot × Bool) :=
  ((pdisk_Disk_Read d 0).bind fun y => ((slot_Read y).bind fun (y2, y3) => ((pdisk_Disk_Read d 1).bind fun y19 => ((slot_Read y19).bind fun (y21, y22) => ((if y22 then (if (!y3) then (some true) else (some (decide (y21.Count > y2.Count)))) else (some false)).bind fun t34 => (if t34 then (some (y21, true)) else (some (y2, y3))))))))

def pdisk_Disk_dead (d : Pdisk_Disk) : Option (Bool × Pdisk_Disk) :=
  (if (decide (d.power > 0)) then (some (false, (Pdisk_Disk.mk d.n d.sure d.now d.l (IntKind.wrap .i64 (d.power - 1))))) else (some ((d.power == 0), d)))

def pdisk_Disk_Write (d : Pdisk_Disk) (i : Int) (b : (List Int)) : Option (Int × Pdisk_Disk) :=
  ((if (decide (i < 0)) then (some true) else (some (decide (i ≥ d.n)))).bind fun t8 => (if t8 then (some (25, d)) else (if (decide ((b.length : Int) > 64)) then (some (22, d)) else ((pdisk_Disk_dead d).bind fun (y, y121) => (if y then (some (26, y121)) else ((mks 1 0 64).bind fun m => ((if (decide ((y121.l.length : Int) < 64)) then ((app 32 y121.l ([(Pdisk_write.mk i (cpyL m 0 m.length b))] : (List Pdisk_write))).bind fun m214 => (some m214)) else (some y121.l)).bind fun mpd_l => (some (0, (Pdisk_Disk.mk y121.n y121.sure (mset y121.now i (cpyL m 0 m.length b)) mpd_l y121.power))))))))))

def pdisk_Disk_settle (d : Pdisk_Disk) : Option Pdisk_Disk :=
  (some (Pdisk_Disk.mk d.n (munion d.sure d.now) ([] : (List (Int × (List Int)))) ([] : (List Pdisk_write)) d.power))

def pdisk_Disk_Flush (d : Pdisk_Disk) : Option (Int × Pdisk_Disk) :=
  ((pdisk_Disk_dead d).bind fun (y, y1) => (if y then (some (26, y1)) else ((pdisk_Disk_settle y1).bind fun y2 => (some (0, y2)))))

def slot_Set (d : Pdisk_Disk) (vs : Slot_Slot) : Option (Int × Pdisk_Disk) :=
  ((slot_Put vs).bind fun y => ((pdisk_Disk_Write d (IntKind.wrap .i64 (Int.tmod vs.Count 2)) y).bind fun (y2, y3) => (if (y2 != 0) then (some (y2, y3)) else ((pdisk_Disk_Flush y3).bind fun (y9, y10) => (some (y9, y10))))))

def slot_Set_nil (vs : Slot_Slot) : Option Int :=
  (some 25)

def mementolaw4_known : Option Bool :=
  ((pdisk_New 4).bind fun y => ((slot_Choose y).bind fun (y1, y2) => ((slot_Set y (Slot_Slot.mk 4 3 1)).bind fun (y14, y15) => ((slot_Set y15 (Slot_Slot.mk 5 5 0)).bind fun (y21, y22) => ((slot_Choose y22).bind fun (y28, y29) => ((mks 1 0 64).bind fun m => ((slot_Read m).bind fun (y45, y46) => ((if (!y2) then (if (y14 == 0) then (if (y21 == 0) then (if y29 then (if ((y28.Count == 5) && ((y28.Gen == 5) && ((y28.Area == 0) && true))) then (if (!y46) then ((slot_Set_nil y28).bind fun y76 => (some (y76 == 25))) else (some false)) else (some false)) else (some false)) else (some false)) else (some false)) else (some false)).bind fun t0 => (some t0)))))))))

def mementolaw4_SlotNewest_L1 (n : Int) (gens : (List Int)) (first : Int) : (Int × Pdisk_Disk) → Option (Ctl (Ctl Bool Pdisk_Disk) (Int × Pdisk_Disk))
  | (i31, me32) => (if (decide (i31 < (gens.length : Int))) then ((idx gens i31).bind fun x => ((slot_Set me32 (Slot_Slot.mk (IntKind.wrap .u64 ((IntKind.wrap .u64 ((IntKind.wrap .u64 first) + (IntKind.wrap .u64 i31))) + 1)) x (Int.tmod (IntKind.wrap .i64 (i31 + (IntKind.wrap .i64 n))) 2))).bind fun (y54, y55) => (if (y54 != 0) then (early (early (some false))) else ((slot_Choose y55).bind fun (y63, y64) => ((if (!y64) then (some true) else (some (!((y63.Count == (IntKind.wrap .u64 ((IntKind.wrap .u64 ((IntKind.wrap .u64 first) + (IntKind.wrap .u64 i31))) + 1))) && ((y63.Gen == x) && ((y63.Area == (Int.tmod (IntKind.wrap .i64 (i31 + (IntKind.wrap .i64 n))) 2)) && true)))))).bind fun t63 => (if t63 then (early (early (some false))) else (some (.go ((IntKind.wrap .i64 (i31 + 1)), y55))))))))) else (early (some (.go me32))))

def mementolaw4_SlotNewest (n : Int) (gens : (List Int)) (first : Int) : Option Bool :=
  ((mementolaw4_known).bind fun y => (if (!y) then (some false) else (if (decide ((gens.length : Int) > 12)) then (some true) else ((pdisk_New 2).bind fun y2 => ((slot_Choose y2).bind fun (y4, y5) => (if y5 then (some false) else (kont (loopN (mementolaw4_SlotNewest_L1 n gens first) fuel (0, y2)) fun me => (some true))))))))

end Go.Proofs.Yteclchefihcjkaa.Am
