/- Part 2 of the proof: values, memory, walks or the plain law. -/
import Derived.Test.YtgdbmgnfaefhoaaGreatQ1
namespace Go.Proofs.YtgdbmgnfaefhoaaGreat.Am
open Go
set_option linter.unusedVariables false
set_option maxRecDepth 10000
structure Api_Item where
 Block : Int
 Data : (List Int)
deriving Inhabited
def c_Api_Item (x : Api_Item) : List PV := [.sc (.int .i64 x.Block), .sl 1 (x.Data.map c_u8)]
structure Api_Stream where
 Blocks : Int
 Size : Int
 From : Int
 To : Int
 Items : (List Api_Item)
deriving Inhabited
def c_Api_Stream (x : Api_Stream) : List PV := [.sc (.int .i64 x.Blocks), .sc (.int .i64 x.Size), .sc (.int .i64 x.From), .sc (.int .i64 x.To), .sl 2 (x.Items.map c_Api_Item)]
structure Pack_rest where
 b : (List Int)
 e : Int
deriving Inhabited
structure Pack_Reader where
 rest : Pack_rest
deriving Inhabited
structure Api_Write where
 Seq : Int
 Items : (List Api_Item)
deriving Inhabited
def c_Api_Write (x : Api_Write) : List PV := [.sc (.int .i64 x.Seq), .sl 2 (x.Items.map c_Api_Item)]
structure Api_Volume where
 Id : Int
 Blocks : Int
 Size : Int
 Per : Int
 Place : (List Int)
 Total : Int
 Next : Int
 Hidden : Bool
 Floor : Int
 Pins : (List Int)
 Writes : (List Api_Write)
deriving Inhabited
def c_Api_Volume (x : Api_Volume) : List PV := [.sc (.int .i64 x.Id), .sc (.int .i64 x.Blocks), .sc (.int .i64 x.Size), .sc (.int .i64 x.Per), .sl 1 (x.Place.map c_i64), .sc (.int .i64 x.Total), .sc (.int .i64 x.Next), .sc (.bool x.Hidden), .sc (.int .i64 x.Floor), .sl 1 (x.Pins.map c_i64), .sl 2 (x.Writes.map c_Api_Write)]
structure Mementoref16_Machine where
 L : (List Api_Volume)
deriving Inhabited
structure Api_VolCmd where
 Kind : Int
 Vol : Int
 Blocks : Int
 Size : Int
 Per : Int
 Place : (List Int)
 Total : Int
 At : Int
 Index : Int
 Items : (List Api_Item)
deriving Inhabited
structure Mementoref1_Reader where
 B : (List Int)
 E : Int
deriving Inhabited
structure Api_Reply where
 Code : Int
 Len : Int
 Floor : Int
 Next : Int
 Data : (List Int)
deriving Inhabited
abbrev k_Api_Volume (x : Api_Volume) : List AV := [.sc (.int .i64 x.Id), .sc (.int .i64 x.Blocks), .sc (.int .i64 x.Size), .sc (.int .i64 x.Per), .sl 1 (x.Place.map c_i64) .no, .sc (.int .i64 x.Total), .sc (.int .i64 x.Next), .sc (.bool x.Hidden), .sc (.int .i64 x.Floor), .sl 1 (x.Pins.map c_i64) .no, .sl 2 (x.Writes.map c_Api_Write) .no]
abbrev z_Api_Volume : List AV := [.sc (.int .i64 0), .sc (.int .i64 0), .sc (.int .i64 0), .sc (.int .i64 0), .sc (.slice none 0 0), .sc (.int .i64 0), .sc (.int .i64 0), .sc (.bool false), .sc (.int .i64 0), .sc (.slice none 0 0), .sc (.slice none 0 0)]
abbrev k_Api_Stream (x : Api_Stream) : List AV := [.sc (.int .i64 x.Blocks), .sc (.int .i64 x.Size), .sc (.int .i64 x.From), .sc (.int .i64 x.To), .sl 2 (x.Items.map c_Api_Item) .no]
abbrev z_Api_Stream : List AV := [.sc (.int .i64 0), .sc (.int .i64 0), .sc (.int .i64 0), .sc (.int .i64 0), .sc (.slice none 0 0)]
abbrev k_Api_VolCmd (x : Api_VolCmd) : List AV := [.sc (.int .i64 x.Kind), .sc (.int .i64 x.Vol), .sc (.int .i64 x.Blocks), .sc (.int .i64 x.Size), .sc (.int .i64 x.Per), .sl 1 (x.Place.map c_i64) .no, .sc (.int .i64 x.Total), .sc (.int .i64 x.At), .sc (.int .i64 x.Index), .sl 2 (x.Items.map c_Api_Item) .no]
abbrev z_Api_VolCmd : List AV := [.sc (.int .i64 0), .sc (.int .i64 0), .sc (.int .i64 0), .sc (.int .i64 0), .sc (.int .i64 0), .sc (.slice none 0 0), .sc (.int .i64 0), .sc (.int .i64 0), .sc (.int .i64 0), .sc (.slice none 0 0)]
abbrev k_Api_Reply (x : Api_Reply) : List AV := [.sc (.int .i64 x.Code), .sc (.int .i64 x.Len), .sc (.int .i64 x.Floor), .sc (.int .i64 x.Next), .sl 1 (x.Data.map c_u8) .no]
def stream_Right_L1 (a0 : Api_Stream) : Int → Option (Ctl (Ctl Bool Unit) Int)
 | t5721 => (if (decide (t5721 < (a0.Items.length : Int))) then ((idx a0.Items t5721).bind fun x => ((if (decide (x.Block < 0)) then (some true) else (if (decide (x.Block ≥ a0.Blocks)) then (some true) else (if (decide (t5721 > 0)) then ((idx a0.Items (IntKind.wrap .i64 (t5721 - 1))).bind fun x46 => (if (decide (x.Block ≤ x46.Block)) then (some true) else (some ((x.Data.length : Int) != a0.Size)))) else (some ((x.Data.length : Int) != a0.Size))))).bind fun t95 => (if t95 then (early (early (some false))) else (some (.go (IntKind.wrap .i64 (t5721 + 1))))))) else (early (some (.go ()))))
def stream_Right (a0 : Api_Stream) : Option Bool :=
 ((if (decide (a0.Blocks < 1)) then (some true) else (if (decide (a0.Blocks > 256)) then (some true) else (if (decide (a0.Size < 1)) then (some true) else (if (decide (a0.Size > 32)) then (some true) else (if (decide (a0.From < (-1))) then (some true) else (if (decide (a0.To < (maxI a0.From 0))) then (some true) else (if (decide (a0.To > 1099511627776)) then (some true) else (if (decide (a0.From < 0)) then (some ((a0.Items.length : Int) != a0.Blocks)) else (some false))))))))).bind fun t53 => (if t53 then (some false) else (kont (loopN (stream_Right_L1 a0) fuel 0) fun () => (some true))))
def chain_Follows (a : Api_Stream) (b : Api_Stream) : Option Bool :=
 (((stream_Right a).bind fun y => (if y then ((stream_Right b).bind fun y11 => (if y11 then (if (a.Blocks == b.Blocks) then (if (a.Size == b.Size) then (some (b.From == a.To)) else (some false)) else (some false)) else (some false))) else (some false))).bind fun t4 => (some t4))
def slices_Grow_Lapi_Item_api_Item_nil (n : Int) : Option (List Api_Item) :=
 (if (decide (n < 0)) then none else (if (decide ((IntKind.wrap .i64 (n - (IntKind.wrap .i64 (0 - 0)))) > 0)) then ((slc ([] : (List Api_Item)) 0 0).bind fun m => ((mkz 32 (IntKind.wrap .i64 (n - (IntKind.wrap .i64 (0 - 0))))).bind fun u => (some ([] : (List Api_Item))))) else (some ([] : (List Api_Item)))))
def slices_Concat_Lapi_Item_api_Item_L1 (slices : (List (List Api_Item))) : (Int × Int) → Option (Ctl Int (Int × Int))
 | (size6, t117) => (if (decide (t117 < (slices.length : Int))) then ((idx slices t117).bind fun x => (if (decide ((IntKind.wrap .i64 (size6 + (x.length : Int))) < 0)) then none else (some (.go ((IntKind.wrap .i64 (size6 + (x.length : Int))), (IntKind.wrap .i64 (t117 + 1))))))) else (early (some size6)))
def slices_Concat_Lapi_Item_api_Item_L2 (slices : (List (List Api_Item))) : ((List Api_Item) × Int) → Option (Ctl (List Api_Item) ((List Api_Item) × Int))
 | (newslice29, t2731) => (if (decide (t2731 < (slices.length : Int))) then ((idx slices t2731).bind fun x39 => ((app 32 newslice29 x39).bind fun m => (some (.go (m, (IntKind.wrap .i64 (t2731 + 1))))))) else (early (some newslice29)))
def slices_Concat_Lapi_Item_api_Item (slices : (List (List Api_Item))) : Option (List Api_Item) :=
 ((loopN (slices_Concat_Lapi_Item_api_Item_L1 slices) fuel (0, 0)).bind fun size => ((slices_Grow_Lapi_Item_api_Item_nil size).bind fun y => ((loopN (slices_Concat_Lapi_Item_api_Item_L2 slices) fuel (y, 0)).bind fun newslice => (some newslice))))
def slices_insertionSortCmpFunc_api_Item_L2 (a : Int) (cmp : (Api_Item → Api_Item → Option Int)) : (Int × (List Api_Item)) → Option (Ctl (List Api_Item) (Int × (List Api_Item)))
 | (j32, mpdata33) => ((if (decide (j32 > a)) then ((idx mpdata33 j32).bind fun x => ((idx mpdata33 (IntKind.wrap .i64 (j32 - 1))).bind fun x45 => ((cmp x x45).bind fun y => (some (decide (y < 0)))))) else (some false)).bind fun t34 => (if t34 then ((idx mpdata33 (IntKind.wrap .i64 (j32 - 1))).bind fun x47 => ((idx mpdata33 j32).bind fun x48 => ((updL mpdata33 j32 x47).bind fun m => ((idx m (IntKind.wrap .i64 (j32 - 1))).bind fun x53 => ((updL m (IntKind.wrap .i64 (j32 - 1)) x48).bind fun m54 => (some (.go ((IntKind.wrap .i64 (j32 - 1)), m54)))))))) else (early (some mpdata33))))
def slices_insertionSortCmpFunc_api_Item_L1 (a : Int) (b : Int) (cmp : (Api_Item → Api_Item → Option Int)) : (Int × (List Api_Item)) → Option (Ctl (List Api_Item) (Int × (List Api_Item)))
 | (i10, mpdata11) => (if (decide (i10 < b)) then ((loopN (slices_insertionSortCmpFunc_api_Item_L2 a cmp) fuel (i10, mpdata11)).bind fun mpdata17 => (some (.go ((IntKind.wrap .i64 (i10 + 1)), mpdata17)))) else (early (some mpdata11)))
def slices_insertionSortCmpFunc_api_Item (data : (List Api_Item)) (a : Int) (b : Int) (cmp : (Api_Item → Api_Item → Option Int)) : Option (List Api_Item) :=
 ((loopN (slices_insertionSortCmpFunc_api_Item_L1 a b cmp) fuel ((IntKind.wrap .i64 (a + 1)), data)).bind fun mpdata => (some mpdata))
def slices_stableCmpFunc_api_Item_L1 (data : (List Api_Item)) (n : Int) (cmp : (Api_Item → Api_Item → Option Int)) : (Int × Int × (List Api_Item)) → Option (Ctl (Int × (List Api_Item)) (Int × Int × (List Api_Item)))
 | (a11, b12, mpdata13) => (if (decide (b12 ≤ n)) then ((slices_insertionSortCmpFunc_api_Item mpdata13 a11 b12 cmp).bind fun y => ((chkl data.length y).bind fun () => (some (.go (b12, (IntKind.wrap .i64 (b12 + 20)), y))))) else (early (some (a11, mpdata13))))
def slices_stableCmpFunc_api_Item_L3 (n : Int) (blockSize45 : Int) : Unit → Option (Ctl Unit Unit)
 | () => (if (decide ((IntKind.wrap .i64 (2 * blockSize45)) ≤ n)) then none else (early (some ())))
def slices_stableCmpFunc_api_Item_L2 (n : Int) : Int → Option (Ctl Unit Int)
 | blockSize45 => (if (decide (blockSize45 < n)) then ((loopN (slices_stableCmpFunc_api_Item_L3 n blockSize45) fuel ()).bind fun () => (if (decide ((IntKind.wrap .i64 (0 + blockSize45)) < n)) then none else (some (.go (IntKind.wrap .i64 (blockSize45 * 2)))))) else (early (some ())))
def slices_stableCmpFunc_api_Item (data : (List Api_Item)) (n : Int) (cmp : (Api_Item → Api_Item → Option Int)) : Option (List Api_Item) :=
 ((loopN (slices_stableCmpFunc_api_Item_L1 data n cmp) fuel (0, 20, data)).bind fun (a, mpdata) => ((slices_insertionSortCmpFunc_api_Item mpdata a n cmp).bind fun y24 => ((chkl data.length y24).bind fun () => ((loopN (slices_stableCmpFunc_api_Item_L2 n) fuel 20).bind fun () => (some y24)))))
def slices_SortStableFunc_Lapi_Item_api_Item (x : (List Api_Item)) (cmp : (Api_Item → Api_Item → Option Int)) : Option (List Api_Item) :=
 ((slices_stableCmpFunc_api_Item x (x.length : Int) cmp).bind fun y => ((chkl x.length y).bind fun () => (some y)))
def cmp_isNaN_int (x : Int) : Option Bool :=
 (some (x != x))
def cmp_Compare_int (x : Int) (y : Int) : Option Int :=
 ((cmp_isNaN_int x).bind fun y1 => ((cmp_isNaN_int y).bind fun y2 => (if y1 then (if y2 then (some 0) else (some (-1))) else (if y2 then (some 1) else (if (decide (x < y)) then (some (-1)) else (if (decide (x > y)) then (some 1) else (some 0)))))))
def chain_Merge_1 (x : Api_Item) (y : Api_Item) : Option Int :=
 ((cmp_Compare_int x.Block y.Block).bind fun y7 => (some y7))
def slices_CompactFunc_Lapi_Item_api_Item_L2 (a1 : (Api_Item → Api_Item → Option Bool)) (o : Nat) (k19 : Nat) : (Int × Int × (List Api_Item)) → Option (Ctl (Int × (List Api_Item)) (Int × Int × (List Api_Item)))
 | (t537, t738, mpa039) => (if (decide (t738 < (k19 : Int))) then (((idxP mpa039 o k19 t738).bind fun x55 => ((idxP mpa039 o k19 (IntKind.wrap .i64 (t738 - 1))).bind fun x56 => ((a1 x55 x56).bind fun y58 => (if (!y58) then ((idx mpa039 t537).bind fun x61 => ((updL mpa039 t537 x55).bind fun m => (some ((IntKind.wrap .i64 (t537 + 1)), m)))) else (some (t537, mpa039)))))).bind fun (t547, mpa048) => (some (.go (t547, (IntKind.wrap .i64 (t738 + 1)), mpa048)))) else (early (some (t537, mpa039))))
def slices_CompactFunc_Lapi_Item_api_Item_L1 (a0 : (List Api_Item)) (a1 : (Api_Item → Api_Item → Option Bool)) : Int → Option (Ctl (Ctl (List Api_Item) Unit) Int)
 | t59 => (if (decide (t59 < (a0.length : Int))) then ((idx a0 t59).bind fun x => ((idx a0 (IntKind.wrap .i64 (t59 - 1))).bind fun x17 => ((a1 x x17).bind fun y => (if y then ((slcH a0.length t59 ((a0.length : Nat) : Int)).bind fun (o, k19) => ((loopN (slices_CompactFunc_Lapi_Item_api_Item_L2 a1 o k19) fuel (t59, 1, a0)).bind fun (t520, mpa0) => ((slcH a0.length t520 ((a0.length : Nat) : Int)).bind fun (o66, k67) => ((slcH a0.length 0 t520).bind fun (o73, k74) => (early (early (some ((fillL mpa0 o66 k67 (Api_Item.mk 0 ([] : (List Int)))).take k74)))))))) else (some (.go (IntKind.wrap .i64 (t59 + 1)))))))) else (early (some (.go ()))))
def slices_CompactFunc_Lapi_Item_api_Item (a0 : (List Api_Item)) (a1 : (Api_Item → Api_Item → Option Bool)) : Option (List Api_Item) :=
 (if (decide ((a0.length : Int) < 2)) then (some a0) else (kont (loopN (slices_CompactFunc_Lapi_Item_api_Item_L1 a0 a1) fuel 1) fun () => (some a0)))
def chain_Merge_2 (x : Api_Item) (y : Api_Item) : Option Bool :=
 (some (x.Block == y.Block))
def slices_Clone_Lapi_Item_api_Item (vs : (List Api_Item)) : Option (List Api_Item) :=
 ((app 32 ([] : (List Api_Item)) vs).bind fun m => (some m))
def slices_Clone_Lbyte_byte (vs : (List Int)) : Option (List Int) :=
 ((app 1 ([] : (List Int)) vs).bind fun m => (some m))
def chain_copied_L1 (y : (List Api_Item)) : (Int × (List Api_Item)) → Option (Ctl (List Api_Item) (Int × (List Api_Item)))
 | (t914, me15) => (if (decide (t914 < (y.length : Int))) then ((idx me15 t914).bind fun x => ((slices_Clone_Lbyte_byte x.Data).bind fun y21 => ((updL me15 t914 (Api_Item.mk x.Block y21)).bind fun m => (some (.go ((IntKind.wrap .i64 (t914 + 1)), m)))))) else (early (some me15)))
def chain_copied (l : (List Api_Item)) : Option (List Api_Item) :=
 ((slices_Clone_Lapi_Item_api_Item l).bind fun y => ((loopN (chain_copied_L1 y) fuel (0, y)).bind fun me => (some me)))
def chain_Merge (a : Api_Stream) (b : Api_Stream) : Option (Api_Stream × Int) :=
 (((stream_Right a).bind fun y => (if (!y) then (some true) else ((stream_Right b).bind fun y21 => (some (!y21))))).bind fun t7 => (if t7 then (some ((Api_Stream.mk 0 0 0 0 ([] : (List Api_Item))), 23)) else ((chain_Follows a b).bind fun y28 => (if (!y28) then (some ((Api_Stream.mk 0 0 0 0 ([] : (List Api_Item))), 38)) else ((slices_Concat_Lapi_Item_api_Item ([b.Items, a.Items] : (List (List Api_Item)))).bind fun y36 => ((slices_SortStableFunc_Lapi_Item_api_Item y36 (fun z0 z1 => chain_Merge_1 z0 z1)).bind fun y49 => ((chkl y36.length y49).bind fun () => ((slices_CompactFunc_Lapi_Item_api_Item y49 (fun z0 z1 => chain_Merge_2 z0 z1)).bind fun y58 => ((chain_copied y58).bind fun y72 => (some ((Api_Stream.mk a.Blocks a.Size a.From b.To y72), 0)))))))))))
def slices_IndexFunc_Lapi_Stream_api_Stream_L1 (vs : (List Api_Stream)) (f : (Api_Stream → Option Bool)) : Int → Option (Ctl (Ctl Int Unit) Int)
 | t85 => (if (decide (t85 < (vs.length : Int))) then ((idx vs t85).bind fun x => ((f x).bind fun y => (if y then (early (early (some t85))) else (some (.go (IntKind.wrap .i64 (t85 + 1))))))) else (early (some (.go ()))))
def slices_IndexFunc_Lapi_Stream_api_Stream (vs : (List Api_Stream)) (f : (Api_Stream → Option Bool)) : Option Int :=
 (kont (loopN (slices_IndexFunc_Lapi_Stream_api_Stream_L1 vs f) fuel 0) fun () => (some (-1)))
def slices_ContainsFunc_Lapi_Stream_api_Stream (vs : (List Api_Stream)) (f : (Api_Stream → Option Bool)) : Option Bool :=
 ((slices_IndexFunc_Lapi_Stream_api_Stream vs f).bind fun y => (some (decide (y ≥ 0))))
def chain_All_1 (vs : Api_Stream) : Option Bool :=
 ((stream_Right vs).bind fun y => (some (!y)))
def chain_full (vs : Api_Stream) : Option Bool :=
 (((stream_Right vs).bind fun y => (if y then (some (decide (vs.From < 0))) else (some false))).bind fun t2 => (some t2))
def chain_follow_R : Nat → (List Api_Stream) → Option Bool
 | 0, _ => none
 | nn + 1, l => ((if (decide ((l.length : Int) < 2)) then (some true) else ((idx l 0).bind fun x => ((idx l 1).bind fun x1 => ((chain_Follows x x1).bind fun y => (if y then ((slc l 1 (l.length : Int)).bind fun m => ((chain_follow_R nn m).bind fun y3 => (some y3))) else (some false)))))).bind fun t2 => (some t2))
def chain_follow (l : (List Api_Stream)) : Option Bool := chain_follow_R fuel l
def chain_Right (l : (List Api_Stream)) : Option Bool :=
 ((if ((l.length : Int) == 0) then (some true) else ((idx l 0).bind fun x => ((chain_full x).bind fun y => (some (!y))))).bind fun t12 => (if t12 then (some false) else ((if ((l.length : Int) == 1) then (some true) else ((chain_follow l).bind fun y5 => (some y5))).bind fun t2 => (some t2))))
def chain_All_L1 (m : (List Api_Stream)) : (Int × Api_Stream) → Option (Ctl Api_Stream (Int × Api_Stream))
 | (t2639, me1140) => (if (decide (t2639 < (m.length : Int))) then ((idx m t2639).bind fun x47 => ((chain_Merge me1140 x47).bind fun (y62, y63) => (some (.go ((IntKind.wrap .i64 (t2639 + 1)), y62))))) else (early (some me1140)))
def chain_All (l : (List Api_Stream)) : Option (Api_Stream × Int) :=
 ((slices_ContainsFunc_Lapi_Stream_api_Stream l (fun z0 => chain_All_1 z0)).bind fun y => (if y then (some ((Api_Stream.mk 0 0 0 0 ([] : (List Api_Item))), 23)) else ((chain_Right l).bind fun y4 => (if (!y4) then (some ((Api_Stream.mk 0 0 0 0 ([] : (List Api_Item))), 38)) else ((idx l 0).bind fun x => ((chain_copied x.Items).bind fun y20 => ((slc l 1 (l.length : Int)).bind fun m => ((loopN (chain_All_L1 m) fuel (0, (Api_Stream.mk x.Blocks x.Size x.From x.To y20))).bind fun me11 => (some (me11, 0))))))))))
def chain_Blocks_L1 (y1 : (List Api_Item)) : ((List (List Int)) × Int) → Option (Ctl (List (List Int)) ((List (List Int)) × Int))
 | (out18, t1320) => (if (decide (t1320 < (y1.length : Int))) then ((idx y1 t1320).bind fun x => ((app 24 out18 ([x.Data] : (List (List Int)))).bind fun m => (some (.go (m, (IntKind.wrap .i64 (t1320 + 1))))))) else (early (some out18)))
def chain_Blocks (vs : Api_Stream) : Option (List (List Int)) :=
 ((chain_full vs).bind fun y => (if (!y) then (some ([] : (List (List Int)))) else ((chain_copied vs.Items).bind fun y1 => ((loopN (chain_Blocks_L1 y1) fuel (([] : (List (List Int))), 0)).bind fun out => (some out)))))
def crc_More_L2 : (Int × Int) → Option (Ctl Int (Int × Int))
 | (vc22, t2023) => (if (decide (t2023 < 8)) then (some (.go ((Go.bits .xor .u32 (shrI vc22 1) (IntKind.wrap .u32 (2197175160 * (Go.bits .and .u32 vc22 1)))), (IntKind.wrap .i64 (t2023 + 1))))) else (early (some vc22)))
def crc_More_L1 (b : (List Int)) : (Int × Int) → Option (Ctl Int (Int × Int))
 | (vc7, t128) => (if (decide (t128 < (b.length : Int))) then ((idx b t128).bind fun x => ((loopN (crc_More_L2) fuel ((Go.bits .xor .u32 vc7 (IntKind.wrap .u32 x)), 0)).bind fun vc13 => (some (.go (vc13, (IntKind.wrap .i64 (t128 + 1))))))) else (early (some vc7)))
def crc_More (vc : Int) (b : (List Int)) : Option Int :=
 ((loopN (crc_More_L1 b) fuel ((notI .u32 vc), 0)).bind fun vc1 => (some (notI .u32 vc1)))
def crc_Sum_L1 (l : (List (List Int))) : (Int × Int) → Option (Ctl Int (Int × Int))
 | (vc6, t87) => (if (decide (t87 < (l.length : Int))) then ((idx l t87).bind fun x => ((crc_More vc6 x).bind fun y => (some (.go (y, (IntKind.wrap .i64 (t87 + 1))))))) else (early (some vc6)))
def crc_Sum (l : (List (List Int))) : Option Int :=
 ((loopN (crc_Sum_L1 l) fuel (0, 0)).bind fun vc => (some vc))
def crc_Four (vc : Int) : Option (List Int) :=
 (some ([(IntKind.wrap .u8 vc), (IntKind.wrap .u8 (shrI vc 8)), (IntKind.wrap .u8 (shrI vc 16)), (IntKind.wrap .u8 (shrI vc 24))] : (List Int)))
def bytes_Equal (a : (List Int)) (b : (List Int)) : Option Bool :=
 (some ((strOf a) == (strOf b)))
def crc_Open (b : (List Int)) : Option ((List Int) × Bool) :=
 ((if (decide ((IntKind.wrap .i64 ((b.length : Int) - 4)) < 0)) then (some true) else ((slc b (IntKind.wrap .i64 ((b.length : Int) - 4)) (b.length : Int)).bind fun m => ((slc b 0 (IntKind.wrap .i64 ((b.length : Int) - 4))).bind fun m1 => ((crc_Sum ([m1] : (List (List Int)))).bind fun y => ((crc_Four y).bind fun y2 => ((bytes_Equal m y2).bind fun y4 => (some (!y4)))))))).bind fun t22 => (if t22 then (some (([] : (List Int)), false)) else ((slc b 0 (IntKind.wrap .i64 ((b.length : Int) - 4))).bind fun m6 => ((app 1 ([] : (List Int)) m6).bind fun m7 => (some (m7, true))))))
def bytes_HasPrefix (vs : (List Int)) (vprefix : (List Int)) : Option Bool :=
 ((if (decide ((vs.length : Int) ≥ (vprefix.length : Int))) then ((slc vs 0 (vprefix.length : Int)).bind fun m => ((bytes_Equal m vprefix).bind fun y => (some y))) else (some false)).bind fun t4 => (some t4))
def bytes_CutPrefix (vs : (List Int)) (vprefix : (List Int)) : Option ((List Int) × Bool) :=
 ((bytes_HasPrefix vs vprefix).bind fun y => (if (!y) then (some (vs, false)) else ((slc vs (vprefix.length : Int) (vs.length : Int)).bind fun m => (some (m, true)))))
def pack_New (b : (List Int)) : Option Pack_Reader :=
 ((slices_Clone_Lbyte_byte b).bind fun y => (some (Pack_Reader.mk (Pack_rest.mk y 0))))
def pack_number_L1 (b : (List Int)) : (Int × Int) → Option (Ctl (Ctl (Int × Int × Int) Unit) (Int × Int))
 | (n5, t106) => (if (decide (t106 < (b.length : Int))) then ((idx b t106).bind fun x => ((if (t106 == 9) then (some (decide (x > 1))) else (some false)).bind fun t20 => (if t20 then (early (early (some (0, 0, 20)))) else ((cnt .u64 (IntKind.wrap .i64 (7 * t106))).bind fun n15 => (if ((Go.bits .and .u8 x 128) != 0) then (some (.go ((Go.bits .or .u64 n5 (shlI .u64 (IntKind.wrap .u64 (Go.bits .andNot .u8 x 128)) n15)), (IntKind.wrap .i64 (t106 + 1))))) else ((if (decide (t106 > 0)) then (some (x == 0)) else (some false)).bind fun t37 => (if t37 then (early (early (some (0, 0, 20)))) else (early (early (some ((Go.bits .or .u64 n5 (shlI .u64 (IntKind.wrap .u64 (Go.bits .andNot .u8 x 128)) n15)), (IntKind.wrap .i64 (t106 + 1)), 0))))))))))) else (early (some (.go ()))))
def pack_number (b : (List Int)) : Option (Int × Int × Int) :=
 (kont (loopN (pack_number_L1 b) fuel (0, 0)) fun () => (some (0, 0, 21)))
def pack_rest_fail (vr : Pack_rest) (e : Int) : Option Pack_rest :=
 (some (Pack_rest.mk ([] : (List Int)) e))
def pack_Reader_Num (vr : Pack_Reader) (most : Int) : Option (Int × Pack_Reader) :=
 (if (vr.rest.e != 0) then (some (0, vr)) else ((pack_number vr.rest.b).bind fun (y, y1, y2) => (if (y2 != 0) then ((pack_rest_fail vr.rest y2).bind fun y4 => (some (0, (Pack_Reader.mk y4)))) else (if (decide (y > most)) then ((pack_rest_fail vr.rest 22).bind fun y7 => (some (0, (Pack_Reader.mk y7)))) else ((slc vr.rest.b y1 (vr.rest.b.length : Int)).bind fun m => (some (y, (Pack_Reader.mk (Pack_rest.mk m vr.rest.e)))))))))
def pack_rest_Left (vr : Pack_rest) : Option Int :=
 (some (vr.b.length : Int))
def pack_rest_Err (vr : Pack_rest) : Option Int :=
 (some vr.e)
def stream_numbers_L1 (n : Int) : ((List Int) × Int × Pack_rest) → Option (Ctl ((List Int) × Pack_rest) ((List Int) × Int × Pack_rest))
 | (out17, t1219, me_rest20) => (if (decide (t1219 < n)) then ((pack_Reader_Num (Pack_Reader.mk me_rest20) 1099511627777).bind fun (y28, y29) => ((app 8 out17 ([(IntKind.wrap .i64 y28)] : (List Int))).bind fun m => (some (.go (m, (IntKind.wrap .i64 (t1219 + 1)), y29.rest))))) else (early (some (out17, me_rest20))))
def stream_numbers (b : (List Int)) (n : Int) : Option ((List Int) × (List Int) × Bool) :=
 ((pack_New b).bind fun y => ((loopN (stream_numbers_L1 n) fuel (([] : (List Int)), 0, y.rest)).bind fun (out, me_rest) => ((pack_rest_Left me_rest).bind fun y41 => ((slc b (IntKind.wrap .i64 ((b.length : Int) - y41)) (b.length : Int)).bind fun m43 => ((pack_rest_Err me_rest).bind fun y44 => (some (out, m43, (y44 == 0))))))))
def stream_parsed_L1 (y14 : (List Int)) (x27 : Int) : ((List Int) × Int × (List Api_Item)) → Option (Ctl (Ctl (Api_Stream × Bool) (List Api_Item)) ((List Int) × Int × (List Api_Item)))
 | (t460, t861, me31_Items62) => (((idx y14 4).bind fun x79 => (if (decide (t861 < x79)) then (some (decide ((t460.length : Int) > 0))) else (some false))).bind fun t67 => (if t67 then ((stream_numbers t460 1).bind fun (y82, y83, y84) => ((if (!y84) then (some true) else (some (decide ((y83.length : Int) < (IntKind.wrap .i64 (x27 + 4)))))).bind fun t85 => (if t85 then (early (early (some ((Api_Stream.mk 0 0 0 0 ([] : (List Api_Item))), false)))) else ((idx y82 0).bind fun x100 => ((slc y83 0 x27).bind fun m101 => ((slices_Clone_Lbyte_byte m101).bind fun y102 => ((app 32 me31_Items62 ([(Api_Item.mk x100 y102)] : (List Api_Item))).bind fun m104 => ((slc y83 (IntKind.wrap .i64 (x27 + 4)) (y83.length : Int)).bind fun m119 => (some (.go (m119, (IntKind.wrap .i64 (t861 + 1)), m104))))))))))) else (early (some (.go me31_Items62)))))
def stream_parsed (a0 : (List Int)) : Option (Api_Stream × Bool) :=
 ((bytes_CutPrefix a0 ([77, 69, 77, 79, 49] : (List Int))).bind fun (y, y10) => (if (!y10) then (some ((Api_Stream.mk 0 0 0 0 ([] : (List Api_Item))), false)) else ((stream_numbers y 5).bind fun (y14, y15, y16) => ((if (!y16) then (some true) else (if (decide ((y15.length : Int) < 4)) then (some true) else ((idx y14 1).bind fun x => (some (decide (x > 32)))))).bind fun t40 => (if t40 then (some ((Api_Stream.mk 0 0 0 0 ([] : (List Api_Item))), false)) else ((idx y14 0).bind fun x26 => ((idx y14 1).bind fun x27 => ((idx y14 2).bind fun x28 => ((idx y14 3).bind fun x29 => ((slc y15 4 (y15.length : Int)).bind fun m => (kont (loopN (stream_parsed_L1 y14 x27) fuel (m, 0, ([] : (List Api_Item)))) fun me31_Items => (some ((Api_Stream.mk x26 x27 (IntKind.wrap .i64 (x28 - 1)) x29 me31_Items), true)))))))))))))
def pack_Put_L2 : ((List Int) × Int) → Option (Ctl ((List Int) × Int) ((List Int) × Int))
 | (out36, n38) => (if (decide (n38 ≥ 128)) then ((app 1 out36 ([(Go.bits .or .u8 (IntKind.wrap .u8 n38) 128)] : (List Int))).bind fun m => (some (.go (m, (shrI n38 7))))) else (early (some (out36, n38))))
def pack_Put_L1 (l : (List Int)) : ((List Int) × Int) → Option (Ctl (List Int) ((List Int) × Int))
 | (out9, t811) => (if (decide (t811 < (l.length : Int))) then ((idx l t811).bind fun x => ((loopN (pack_Put_L2) fuel (out9, x)).bind fun (out17, n) => ((app 1 out17 ([(IntKind.wrap .u8 n)] : (List Int))).bind fun m50 => (some (.go (m50, (IntKind.wrap .i64 (t811 + 1)))))))) else (early (some out9)))
def pack_Put (l : (List Int)) : Option (List Int) :=
 ((loopN (pack_Put_L1 l) fuel (([] : (List Int)), 0)).bind fun out => (some out))
def crc_Seal (b : (List Int)) : Option (List Int) :=
 ((app 1 ([] : (List Int)) b).bind fun m => ((crc_Sum ([b] : (List (List Int)))).bind fun y => ((crc_Four y).bind fun y1 => ((app 1 m y1).bind fun m3 => (some m3)))))
def slices_Grow_Lbyte_byte_nil (n : Int) : Option (List Int) :=
 (if (decide (n < 0)) then none else (if (decide ((IntKind.wrap .i64 (n - (IntKind.wrap .i64 (0 - 0)))) > 0)) then ((slc ([] : (List Int)) 0 0).bind fun m => ((mkz 1 (IntKind.wrap .i64 (n - (IntKind.wrap .i64 (0 - 0))))).bind fun u => (some ([] : (List Int))))) else (some ([] : (List Int)))))
def slices_Concat_Lbyte_byte_L1 (slices : (List (List Int))) : (Int × Int) → Option (Ctl Int (Int × Int))
 | (size6, t117) => (if (decide (t117 < (slices.length : Int))) then ((idx slices t117).bind fun x => (if (decide ((IntKind.wrap .i64 (size6 + (x.length : Int))) < 0)) then none else (some (.go ((IntKind.wrap .i64 (size6 + (x.length : Int))), (IntKind.wrap .i64 (t117 + 1))))))) else (early (some size6)))
def slices_Concat_Lbyte_byte_L2 (slices : (List (List Int))) : ((List Int) × Int) → Option (Ctl (List Int) ((List Int) × Int))
 | (newslice29, t2731) => (if (decide (t2731 < (slices.length : Int))) then ((idx slices t2731).bind fun x39 => ((app 1 newslice29 x39).bind fun m => (some (.go (m, (IntKind.wrap .i64 (t2731 + 1))))))) else (early (some newslice29)))
def slices_Concat_Lbyte_byte (slices : (List (List Int))) : Option (List Int) :=
 ((loopN (slices_Concat_Lbyte_byte_L1 slices) fuel (0, 0)).bind fun size => ((slices_Grow_Lbyte_byte_nil size).bind fun y => ((loopN (slices_Concat_Lbyte_byte_L2 slices) fuel (y, 0)).bind fun newslice => (some newslice))))
def pack_Join (l : (List (List Int))) : Option (List Int) :=
 ((slices_Concat_Lbyte_byte l).bind fun y => (some y))
def stream_Put_L1 (vs : Api_Stream) : ((List Int) × Int) → Option (Ctl (List Int) ((List Int) × Int))
 | (out47, t3649) => (if (decide (t3649 < (vs.Items.length : Int))) then ((idx vs.Items t3649).bind fun x => ((pack_Put ([(IntKind.wrap .u64 x.Block)] : (List Int))).bind fun y71 => ((pack_Join ([y71, x.Data] : (List (List Int)))).bind fun y73 => ((crc_Seal y73).bind fun y75 => ((app 1 out47 y75).bind fun m77 => (some (.go (m77, (IntKind.wrap .i64 (t3649 + 1)))))))))) else (early (some out47)))
def stream_Put (vs : Api_Stream) : Option ((List Int) × Int) :=
 ((stream_Right vs).bind fun y => (if (!y) then (some (([] : (List Int)), 23)) else ((pack_Put ([(IntKind.wrap .u64 vs.Blocks), (IntKind.wrap .u64 vs.Size), (IntKind.wrap .u64 (IntKind.wrap .i64 (vs.From + 1))), (IntKind.wrap .u64 vs.To), (IntKind.wrap .u64 (vs.Items.length : Int))] : (List Int))).bind fun y10 => ((app 1 ([77, 69, 77, 79, 49] : (List Int)) y10).bind fun m => ((crc_Seal m).bind fun y19 => ((loopN (stream_Put_L1 vs) fuel (y19, 0)).bind fun out => ((crc_Seal out).bind fun y87 => (some (y87, 0)))))))))
def stream_Read (b : (List Int)) : Option (Api_Stream × Int) :=
 (if (decide ((b.length : Int) < 4)) then (some ((Api_Stream.mk 0 0 0 0 ([] : (List Api_Item))), 21)) else ((crc_Open b).bind fun (y, y4) => (if (!y4) then (some ((Api_Stream.mk 0 0 0 0 ([] : (List Api_Item))), 24)) else ((stream_parsed y).bind fun (y9, y10) => ((stream_Put y9).bind fun (y22, y23) => ((if (!y10) then (some true) else (if (y23 != 0) then (some true) else ((bytes_Equal y22 b).bind fun y30 => (some (!y30))))).bind fun t42 => (if t42 then (some ((Api_Stream.mk 0 0 0 0 ([] : (List Api_Item))), 20)) else (some (y9, 0)))))))))
def chain_Decode_L1 (l : (List (List Int))) : ((List Api_Stream) × Int) → Option (Ctl (Ctl ((List Api_Stream) × Int × Int) (List Api_Stream)) ((List Api_Stream) × Int))
 | (out9, t1311) => (if (decide (t1311 < (l.length : Int))) then ((idx l t1311).bind fun x => ((stream_Read x).bind fun (y, y18) => (if (y18 != 0) then (early (early (some (([] : (List Api_Stream)), t1311, y18)))) else ((app 56 out9 ([y] : (List Api_Stream))).bind fun m => (some (.go (m, (IntKind.wrap .i64 (t1311 + 1))))))))) else (early (some (.go out9))))
def chain_Decode_L2 (out : (List Api_Stream)) : Int → Option (Ctl (Ctl ((List Api_Stream) × Int × Int) Unit) Int)
 | i59 => (if (decide (i59 < (out.length : Int))) then ((idx out (IntKind.wrap .i64 (i59 - 1))).bind fun x67 => ((idx out i59).bind fun x68 => ((chain_Follows x67 x68).bind fun y69 => (if (!y69) then (early (early (some (([] : (List Api_Stream)), i59, 38)))) else (some (.go (IntKind.wrap .i64 (i59 + 1)))))))) else (early (some (.go ()))))
def chain_Decode (l : (List (List Int))) : Option ((List Api_Stream) × Int × Int) :=
 (kont (loopN (chain_Decode_L1 l) fuel (([] : (List Api_Stream)), 0)) fun out => ((if ((out.length : Int) == 0) then (some true) else ((idx out 0).bind fun x41 => ((chain_full x41).bind fun y42 => (some (!y42))))).bind fun t41 => (if t41 then (some (([] : (List Api_Stream)), 0, 38)) else (kont (loopN (chain_Decode_L2 out) fuel 1) fun () => (some (out, 0, 0))))))
def mementoref13_SameItems_L1 (a : (List Api_Item)) (b : (List Api_Item)) : Int → Option (Ctl (Ctl Bool Unit) Int)
 | i5 => (if (decide (i5 < (a.length : Int))) then (((idx a i5).bind fun x => ((idx b i5).bind fun x14 => (if (x.Block != x14.Block) then (some true) else (some ((strOf x.Data) != (strOf x14.Data)))))).bind fun t42 => (if t42 then (early (early (some false))) else (some (.go (IntKind.wrap .i64 (i5 + 1)))))) else (early (some (.go ()))))
def mementoref13_SameItems (a : (List Api_Item)) (b : (List Api_Item)) : Option Bool :=
 (if ((a.length : Int) != (b.length : Int)) then (some false) else (kont (loopN (mementoref13_SameItems_L1 a b) fuel 0) fun () => (some true)))
def mementohelp_Streams (a : Api_Stream) (b : Api_Stream) : Option Bool :=
 ((if (a.Blocks == b.Blocks) then (if (a.Size == b.Size) then (if (a.From == b.From) then (if (a.To == b.To) then ((mementoref13_SameItems a.Items b.Items).bind fun y => (some y)) else (some false)) else (some false)) else (some false)) else (some false)).bind fun t4 => (some t4))
def mementolaw22_known : Option Bool :=
 ((chain_Merge (Api_Stream.mk 2 1 (-1) 1 ([(Api_Item.mk 0 ([120] : (List Int))), (Api_Item.mk 1 ([121] : (List Int)))] : (List Api_Item))) (Api_Stream.mk 2 1 1 2 ([(Api_Item.mk 1 ([122] : (List Int)))] : (List Api_Item)))).bind fun (y, y40) => ((chain_Merge (Api_Stream.mk 2 1 1 2 ([(Api_Item.mk 1 ([122] : (List Int)))] : (List Api_Item))) (Api_Stream.mk 2 1 (-1) 1 ([(Api_Item.mk 0 ([120] : (List Int))), (Api_Item.mk 1 ([121] : (List Int)))] : (List Api_Item)))).bind fun (y55, y56) => ((chain_All ([(Api_Stream.mk 2 1 (-1) 1 ([(Api_Item.mk 0 ([120] : (List Int))), (Api_Item.mk 1 ([121] : (List Int)))] : (List Api_Item))), (Api_Stream.mk 2 1 1 2 ([(Api_Item.mk 1 ([122] : (List Int)))] : (List Api_Item)))] : (List Api_Stream))).bind fun (y75, y76) => ((chain_Blocks y75).bind fun y98 => ((chain_Decode ([] : (List (List Int)))).bind fun (y100, y101, y102) => ((if (y40 == 0) then ((mementohelp_Streams y y75).bind fun y111 => (if y111 then (if (y56 == 38) then (if (y76 == 0) then (if ((y98.length : Int) == 2) then ((idx y98 1).bind fun x => (if ((strOf x) == ([122] : List UInt8)) then ((chain_Right ([(Api_Stream.mk 2 1 (-1) 1 ([(Api_Item.mk 0 ([120] : (List Int))), (Api_Item.mk 1 ([121] : (List Int)))] : (List Api_Item))), (Api_Stream.mk 2 1 1 2 ([(Api_Item.mk 1 ([122] : (List Int)))] : (List Api_Item)))] : (List Api_Stream))).bind fun y118 => (if y118 then ((chain_Right ([(Api_Stream.mk 2 1 1 2 ([(Api_Item.mk 1 ([122] : (List Int)))] : (List Api_Item)))] : (List Api_Stream))).bind fun y121 => (if (!y121) then ((chain_Follows (Api_Stream.mk 2 1 (-1) 1 ([(Api_Item.mk 0 ([120] : (List Int))), (Api_Item.mk 1 ([121] : (List Int)))] : (List Api_Item))) (Api_Stream.mk 2 1 1 2 ([(Api_Item.mk 1 ([122] : (List Int)))] : (List Api_Item)))).bind fun y124 => (if y124 then (if (y101 == 0) then (some (y102 == 38)) else (some false)) else (some false))) else (some false))) else (some false))) else (some false))) else (some false)) else (some false)) else (some false)) else (some false))) else (some false)).bind fun t0 => (some t0)))))))
def mementoref16_Machine_find_L1 (m : Mementoref16_Machine) (id : Int) : Int → Option (Ctl (Ctl Int Unit) Int)
 | i7 => (if (decide (i7 < (m.L.length : Int))) then ((idx m.L i7).bind fun x => (if (x.Id == id) then (early (early (some i7))) else (some (.go (IntKind.wrap .i64 (i7 + 1)))))) else (early (some (.go ()))))
def mementoref16_Machine_find (m : Mementoref16_Machine) (id : Int) : Option Int :=
 (kont (loopN (mementoref16_Machine_find_L1 m id) fuel 0) fun () => (some (-1)))
def mementoref16_Machine_Volume (m : Mementoref16_Machine) (id : Int) : Option (Api_Volume × Bool) :=
 ((mementoref16_Machine_find m id).bind fun y => (if (decide (y < 0)) then (some ((Api_Volume.mk 0 0 0 0 ([] : (List Int)) 0 0 false 0 ([] : (List Int)) ([] : (List Api_Write))), false)) else ((idx m.L y).bind fun x => (some (x, true)))))
def mementoref16_Chunks (blocks : Int) (per : Int) : Option Int :=
 ((quoI .i64 (IntKind.wrap .i64 ((IntKind.wrap .i64 (blocks + per)) - 1)) per).bind fun x => (some x))
def mementoseat_Create_L1 (blocks : Int) (per : Int) (x : Int) : (Int × (List Int)) → Option (Ctl (List Int) (Int × (List Int)))
 | (i33, me2_Place34) => ((mementoref16_Chunks (IntKind.wrap .i64 ((IntKind.wrap .i64 (Int.tmod blocks 9)) + 1)) (IntKind.wrap .i64 (x + 1))).bind fun y => (if (decide (i33 < y)) then ((app 8 me2_Place34 ([(IntKind.wrap .i64 (1 + (Int.tmod (IntKind.wrap .i64 (i33 + (IntKind.wrap .i64 per))) 2)))] : (List Int))).bind fun m => (some (.go ((IntKind.wrap .i64 (i33 + 1)), m)))) else (early (some me2_Place34))))
def mementoseat_Create (vol : Int) (blocks : Int) (size : Int) (per : Int) (total : Int) : Option Api_VolCmd :=
 ((remI (IntKind.wrap .i64 per) (IntKind.wrap .i64 ((IntKind.wrap .i64 (Int.tmod blocks 9)) + 1))).bind fun x => ((loopN (mementoseat_Create_L1 blocks per x) fuel (0, ([] : (List Int)))).bind fun me2_Place => (some (Api_VolCmd.mk 1 (IntKind.wrap .i64 (Int.tmod vol 3)) (IntKind.wrap .i64 ((IntKind.wrap .i64 (Int.tmod blocks 9)) + 1)) (IntKind.wrap .i64 ((IntKind.wrap .i64 (Int.tmod size 3)) + 1)) (IntKind.wrap .i64 (x + 1)) me2_Place total 0 0 ([] : (List Api_Item))))))
def mementoseat_Data_L1 (size : Int) (k : Int) : ((List Int) × Int) → Option (Ctl (List Int) ((List Int) × Int))
 | (b10, i12) => (if (decide (i12 < size)) then ((app 1 b10 ([(IntKind.wrap .u8 (k + (IntKind.wrap .u8 ((IntKind.wrap .u8 i12) * 7))))] : (List Int))).bind fun m => (some (.go (m, (IntKind.wrap .i64 (i12 + 1)))))) else (early (some b10)))
def mementoseat_Data (size : Int) (k : Int) : Option (List Int) :=
 ((loopN (mementoseat_Data_L1 size k) fuel (([] : (List Int)), 0)).bind fun b => (some b))
def mementoseat_Items_L2 (out9 : (List Api_Item)) (x29 : Int) : (Bool × Int) → Option (Ctl Bool (Bool × Int))
 | (there45, k46) => (if (decide (k46 < (out9.length : Int))) then ((if there45 then (some true) else ((idx out9 k46).bind fun x61 => (some (x61.Block == x29)))).bind fun there54 => (some (.go (there54, (IntKind.wrap .i64 (k46 + 1)))))) else (early (some there45)))
def mementoseat_Items_L1 (blocks : Int) (size : Int) (l : (List Int)) : ((List Api_Item) × Int) → Option (Ctl (List Api_Item) ((List Api_Item) × Int))
 | (out9, i11) => ((if (decide (i11 < (l.length : Int))) then (some (decide ((out9.length : Int) < 8))) else (some false)).bind fun t20 => (if t20 then (((idx l i11).bind fun x => ((remI (IntKind.wrap .i64 x) (maxI blocks 1)).bind fun x29 => ((loopN (mementoseat_Items_L2 out9 x29) fuel (false, 0)).bind fun there => (if (!there) then ((mementoseat_Data size x).bind fun y => ((app 32 out9 ([(Api_Item.mk x29 y)] : (List Api_Item))).bind fun m => (some m))) else (some out9))))).bind fun out22 => (some (.go (out22, (IntKind.wrap .i64 (i11 + 1)))))) else (early (some out9))))
def mementoseat_Items (blocks : Int) (size : Int) (l : (List Int)) : Option (List Api_Item) :=
 ((loopN (mementoseat_Items_L1 blocks size l) fuel (([] : (List Api_Item)), 0)).bind fun out => (some out))
def mementoref16_Len (v : Api_Volume) : Option Int :=
 (some (v.Writes.length : Int))
def mementoseat_Cmd (a0 : Api_Volume) (a1 : Bool) (a2 : Int) (a3 : Int) (a4 : Int) (a5 : Int) : Option Api_VolCmd :=
 (if (!a1) then ((if ((Int.tmod a5 4) == 0) then (some (IntKind.wrap .i64 ((IntKind.wrap .i64 (Int.tmod (IntKind.wrap .u8 (Int.tdiv a5 4)) 3)) + 1))) else (some 0)).bind fun t13 => ((mementoseat_Create (IntKind.wrap .u8 a0.Id) a3 a4 a5 t13).bind fun y => (some y))) else (((if ((Int.tmod a2 10) == 0) then (some ((Int.tmod a2 10) == 0)) else (if ((Int.tmod a2 10) == 1) then (some ((Int.tmod a2 10) == 1)) else (if ((Int.tmod a2 10) == 2) then (some ((Int.tmod a2 10) == 2)) else (some ((Int.tmod a2 10) == 3))))).bind fun t39 => (if t39 then ((mementoseat_Items a0.Blocks a0.Size ([a3, a4, a5] : (List Int))).bind fun y46 => (some (2, 0, 0, y46))) else (if ((Int.tmod a2 10) == 4) then ((mementoref16_Len a0).bind fun y59 => ((remI (IntKind.wrap .i64 a3) (IntKind.wrap .i64 (y59 + 2))).bind fun x => (some (3, x, 0, ([] : (List Api_Item)))))) else (if ((Int.tmod a2 10) == 5) then ((mementoref16_Len a0).bind fun y72 => ((remI (IntKind.wrap .i64 a3) (IntKind.wrap .i64 (y72 + 2))).bind fun x74 => (some (4, x74, 0, ([] : (List Api_Item)))))) else (if ((Int.tmod a2 10) == 6) then ((mementoref16_Len a0).bind fun y86 => ((remI (IntKind.wrap .i64 a3) (IntKind.wrap .i64 (y86 + 2))).bind fun x88 => (some (5, x88, 0, ([] : (List Api_Item)))))) else (if ((Int.tmod a2 10) == 7) then (some (8, 0, 0, ([] : (List Api_Item)))) else (if ((Int.tmod a2 10) == 8) then ((mementoseat_Items a0.Blocks a0.Size ([a3, a4] : (List Int))).bind fun y106 => (some (6, 0, (maxI (IntKind.wrap .i64 (a0.Next - (IntKind.wrap .i64 (Int.tdiv (IntKind.wrap .i64 (Int.tmod a5 5)) 4)))) 0), y106))) else (some (7, 0, 0, ([] : (List Api_Item))))))))))).bind fun (me17_Kind, me17_At, me17_Index, me17_Items) => ((if a0.Hidden then (some (decide ((Int.tmod a2 10) < 5))) else (some false)).bind fun t115 => ((if t115 then ((mementoseat_Items a0.Blocks a0.Size ([a3, a4, a5] : (List Int))).bind fun y146 => (some (6, 0, a0.Next, y146))) else (some (me17_Kind, me17_At, me17_Index, me17_Items))).bind fun (me17_Kind134, me17_At135, me17_Index136, me17_Items137) => (some (Api_VolCmd.mk me17_Kind134 a0.Id 0 0 0 ([] : (List Int)) 0 me17_At135 me17_Index136 me17_Items137))))))
def mementoref16_within (n : Int) : Option Bool :=
 ((if (decide (n ≥ 0)) then (some (decide (n ≤ 1099511627776))) else (some false)).bind fun t2 => (some t2))
def mementoref16_CmdRight_L1 (a0 : Api_VolCmd) : Int → Option (Ctl (Ctl Bool Unit) Int)
 | t334 => (if (decide (t334 < (a0.Place.length : Int))) then (((idx a0.Place t334).bind fun x => (if (decide (x < 0)) then (some true) else (some (decide (x ≥ 8))))).bind fun t91 => (if t91 then (early (early (some false))) else (some (.go (IntKind.wrap .i64 (t334 + 1)))))) else (early (some (.go ()))))
def mementoref16_CmdRight_L2 (a0 : Api_VolCmd) : Int → Option (Ctl (Ctl Bool Unit) Int)
 | t458 => (if (decide (t458 < (a0.Items.length : Int))) then (((idx a0.Items t458).bind fun x69 => (if (decide (x69.Block < 0)) then (some true) else (if (decide (x69.Block ≥ 256)) then (some true) else (some (decide ((x69.Data.length : Int) > 32)))))).bind fun t124 => (if t124 then (early (early (some false))) else (some (.go (IntKind.wrap .i64 (t458 + 1)))))) else (early (some (.go ()))))
def mementoref16_CmdRight (a0 : Api_VolCmd) : Option Bool :=
 ((if (decide (a0.Kind < 1)) then (some true) else (if (decide (a0.Kind > 8)) then (some true) else (if (decide (a0.Vol < 0)) then (some true) else (if (decide (a0.Vol ≥ 8)) then (some true) else ((mementoref16_within a0.Blocks).bind fun y => (if (!y) then (some true) else ((mementoref16_within a0.Size).bind fun y8 => (if (!y8) then (some true) else ((mementoref16_within a0.Per).bind fun y11 => (if (!y11) then (some true) else ((mementoref16_within a0.Total).bind fun y14 => (if (!y14) then (some true) else ((mementoref16_within a0.Index).bind fun y17 => (if (!y17) then (some true) else ((mementoref16_within a0.At).bind fun y20 => (if (!y20) then (some true) else (if (decide ((a0.Place.length : Int) > 256)) then (some true) else (some (decide ((a0.Items.length : Int) > 8)))))))))))))))))))).bind fun t70 => (if t70 then (some false) else (kont (loopN (mementoref16_CmdRight_L1 a0) fuel 0) fun () => (kont (loopN (mementoref16_CmdRight_L2 a0) fuel 0) fun () => (some true)))))
def mementoref1_Put_L2 : ((List Int) × Int) → Option (Ctl ((List Int) × Int) ((List Int) × Int))
 | (b36, n38) => (if (decide (n38 ≥ 128)) then ((app 1 b36 ([(Go.bits .or .u8 (IntKind.wrap .u8 n38) 128)] : (List Int))).bind fun m => (some (.go (m, (shrI n38 7))))) else (early (some (b36, n38))))
def mementoref1_Put_L1 (l : (List Int)) : ((List Int) × Int) → Option (Ctl (List Int) ((List Int) × Int))
 | (b9, i11) => (if (decide (i11 < (l.length : Int))) then ((idx l i11).bind fun x => ((loopN (mementoref1_Put_L2) fuel (b9, x)).bind fun (b17, n) => ((app 1 b17 ([(IntKind.wrap .u8 n)] : (List Int))).bind fun m50 => (some (.go (m50, (IntKind.wrap .i64 (i11 + 1)))))))) else (early (some b9)))
def mementoref1_Put (l : (List Int)) : Option (List Int) :=
 ((loopN (mementoref1_Put_L1 l) fuel (([] : (List Int)), 0)).bind fun b => (some b))
def mementoref16_nums_L1 (l : (List Int)) : ((List Int) × Int) → Option (Ctl (List Int) ((List Int) × Int))
 | (b9, i11) => (if (decide (i11 < (l.length : Int))) then ((idx l i11).bind fun x => ((mementoref1_Put ([(IntKind.wrap .u64 x)] : (List Int))).bind fun y => ((app 1 b9 y).bind fun m => (some (.go (m, (IntKind.wrap .i64 (i11 + 1)))))))) else (early (some b9)))
def mementoref16_nums (l : (List Int)) : Option (List Int) :=
 ((loopN (mementoref16_nums_L1 l) fuel (([] : (List Int)), 0)).bind fun b => (some b))
def mementoref16_place_L1 (l : (List Int)) : ((List Int) × Int) → Option (Ctl (List Int) ((List Int) × Int))
 | (b15, i17) => (if (decide (i17 < (l.length : Int))) then ((idx l i17).bind fun x => ((mementoref16_nums ([x] : (List Int))).bind fun y23 => ((app 1 b15 y23).bind fun m => (some (.go (m, (IntKind.wrap .i64 (i17 + 1)))))))) else (early (some b15)))
def mementoref16_place (l : (List Int)) : Option (List Int) :=
 ((mementoref16_nums ([(l.length : Int)] : (List Int))).bind fun y => ((loopN (mementoref16_place_L1 l) fuel (y, 0)).bind fun b => (some b)))
def mementoref13_nums_L1 (l : (List Int)) : ((List Int) × Int) → Option (Ctl (List Int) ((List Int) × Int))
 | (b9, i11) => (if (decide (i11 < (l.length : Int))) then ((idx l i11).bind fun x => ((mementoref1_Put ([(IntKind.wrap .u64 x)] : (List Int))).bind fun y => ((app 1 b9 y).bind fun m => (some (.go (m, (IntKind.wrap .i64 (i11 + 1)))))))) else (early (some b9)))
def mementoref13_nums (l : (List Int)) : Option (List Int) :=
 ((loopN (mementoref13_nums_L1 l) fuel (([] : (List Int)), 0)).bind fun b => (some b))
def mementoref1_Lump (b : (List Int)) : Option (List Int) :=
 ((mementoref1_Put ([(IntKind.wrap .u64 (b.length : Int))] : (List Int))).bind fun y => ((app 1 y b).bind fun m => (some m)))
def mementoref13_PutItems_L1 (l : (List Api_Item)) : ((List Int) × Int) → Option (Ctl (List Int) ((List Int) × Int))
 | (b15, i17) => (if (decide (i17 < (l.length : Int))) then ((idx l i17).bind fun x => ((mementoref13_nums ([x.Block] : (List Int))).bind fun y23 => ((app 1 b15 y23).bind fun m => ((mementoref1_Lump x.Data).bind fun y30 => ((app 1 m y30).bind fun m32 => (some (.go (m32, (IntKind.wrap .i64 (i17 + 1)))))))))) else (early (some b15)))
def mementoref13_PutItems (l : (List Api_Item)) : Option (List Int) :=
 ((mementoref13_nums ([(l.length : Int)] : (List Int))).bind fun y => ((loopN (mementoref13_PutItems_L1 l) fuel (y, 0)).bind fun b => (some b)))
def mementoref16_PutCmd (vc : Api_VolCmd) : Option ((List Int) × Int) :=
 ((mementoref16_CmdRight vc).bind fun y => (if (!y) then (some (([] : (List Int)), 23)) else ((mementoref16_nums ([vc.Kind, vc.Vol, vc.Blocks, vc.Size, vc.Per, vc.Total, vc.At, vc.Index] : (List Int))).bind fun y1 => ((mementoref16_place vc.Place).bind fun y9 => ((app 1 y1 y9).bind fun m => ((mementoref13_PutItems vc.Items).bind fun y18 => ((app 1 m y18).bind fun m20 => (some (m20, 0)))))))))
def mementoref1_Reader_fail (vr : Mementoref1_Reader) (e : Int) : Option Mementoref1_Reader :=
 (some (Mementoref1_Reader.mk ([] : (List Int)) e))
def mementoref1_Reader_Num_L1 (a0 : Mementoref1_Reader) (a1 : Int) : (Int × Int) → Option (Ctl (Ctl (Int × Mementoref1_Reader) Unit) (Int × Int))
 | (t57, t68) => (if (decide (t68 < (a0.B.length : Int))) then ((idx a0.B t68).bind fun x => ((if (t68 == 9) then (some (decide (x > 1))) else (some false)).bind fun t34 => (if t34 then ((mementoref1_Reader_fail a0 20).bind fun y => (early (early (some (0, y))))) else ((cnt .u64 (IntKind.wrap .i64 (7 * t68))).bind fun n => (if (decide (x < 128)) then ((if (decide (t68 > 0)) then (some (x == 0)) else (some false)).bind fun t52 => (if t52 then ((mementoref1_Reader_fail a0 20).bind fun y30 => (early (early (some (0, y30))))) else (if (decide ((Go.bits .or .u64 t57 (shlI .u64 (IntKind.wrap .u64 (Go.bits .and .u8 x 127)) n)) > a1)) then ((mementoref1_Reader_fail a0 22).bind fun y36 => (early (early (some (0, y36))))) else ((slc a0.B (IntKind.wrap .i64 (t68 + 1)) (a0.B.length : Int)).bind fun m => (early (early (some ((Go.bits .or .u64 t57 (shlI .u64 (IntKind.wrap .u64 (Go.bits .and .u8 x 127)) n)), (Mementoref1_Reader.mk m a0.E))))))))) else (some (.go ((Go.bits .or .u64 t57 (shlI .u64 (IntKind.wrap .u64 (Go.bits .and .u8 x 127)) n)), (IntKind.wrap .i64 (t68 + 1)))))))))) else (early (some (.go ()))))
def mementoref1_Reader_Num (a0 : Mementoref1_Reader) (a1 : Int) : Option (Int × Mementoref1_Reader) :=
 (if (a0.E != 0) then (some (0, a0)) else (kont (loopN (mementoref1_Reader_Num_L1 a0 a1) fuel (0, 0)) fun () => ((mementoref1_Reader_fail a0 21).bind fun y44 => (some (0, y44)))))
def mementoref16_takePlace_L1 (y : Int) : ((List Int) × Int × Mementoref1_Reader) → Option (Ctl ((List Int) × Mementoref1_Reader) ((List Int) × Int × Mementoref1_Reader))
 | (l17, i19, mpvr20) => ((if (decide (i19 < y)) then (some (mpvr20.E == 0)) else (some false)).bind fun t17 => (if t17 then ((mementoref1_Reader_Num mpvr20 8).bind fun (y34, y35) => ((app 8 l17 ([(IntKind.wrap .i64 y34)] : (List Int))).bind fun m => (some (.go (m, (IntKind.wrap .u64 (i19 + 1)), y35))))) else (early (some (l17, mpvr20)))))
def mementoref16_takePlace (vr : Mementoref1_Reader) : Option ((List Int) × Mementoref1_Reader) :=
 ((mementoref1_Reader_Num vr 256).bind fun (y, y1) => ((loopN (mementoref16_takePlace_L1 y) fuel (([] : (List Int)), 0, y1)).bind fun (l, mpvr) => (some (l, mpvr))))
def mementoref1_Reader_Lump (vr : Mementoref1_Reader) (most : Int) : Option ((List Int) × Mementoref1_Reader) :=
 ((mementoref1_Reader_Num vr (IntKind.wrap .u64 (maxI most 0))).bind fun (y, y1) => (if (y1.E != 0) then (some (([] : (List Int)), y1)) else (if (decide (y > (IntKind.wrap .u64 (y1.B.length : Int)))) then ((mementoref1_Reader_fail y1 21).bind fun y3 => (some (([] : (List Int)), y3))) else ((slc y1.B 0 y).bind fun m => ((slc y1.B y (y1.B.length : Int)).bind fun m8 => (some (m, (Mementoref1_Reader.mk m8 y1.E))))))))
def mementoref13_TakeItems_L1 (y : Int) : ((List Api_Item) × Int × Mementoref1_Reader) → Option (Ctl ((List Api_Item) × Mementoref1_Reader) ((List Api_Item) × Int × Mementoref1_Reader))
 | (l17, i19, mpvr20) => ((if (decide (i19 < y)) then (some (mpvr20.E == 0)) else (some false)).bind fun t18 => (if t18 then ((mementoref1_Reader_Num mpvr20 256).bind fun (y34, y35) => ((mementoref1_Reader_Lump y35 32).bind fun (y41, y42) => ((app 1 ([] : (List Int)) y41).bind fun m => ((app 32 l17 ([(Api_Item.mk (IntKind.wrap .i64 y34) m)] : (List Api_Item))).bind fun m55 => (some (.go (m55, (IntKind.wrap .u64 (i19 + 1)), y42))))))) else (early (some (l17, mpvr20)))))
def mementoref13_TakeItems (vr : Mementoref1_Reader) : Option ((List Api_Item) × Mementoref1_Reader) :=
 ((mementoref1_Reader_Num vr 8).bind fun (y, y1) => ((loopN (mementoref13_TakeItems_L1 y) fuel (([] : (List Api_Item)), 0, y1)).bind fun (l, mpvr) => (some (l, mpvr))))
def mementoref16_ReadCmd (a0 : (List Int)) : Option (Api_VolCmd × Int) :=
 ((mementoref1_Reader_Num (Mementoref1_Reader.mk a0 0) 8).bind fun (y, y16) => ((mementoref1_Reader_Num y16 8).bind fun (y27, y28) => ((mementoref1_Reader_Num y28 1099511627776).bind fun (y40, y41) => ((mementoref1_Reader_Num y41 1099511627776).bind fun (y53, y54) => ((mementoref1_Reader_Num y54 1099511627776).bind fun (y66, y67) => ((mementoref1_Reader_Num y67 1099511627776).bind fun (y79, y80) => ((mementoref1_Reader_Num y80 1099511627776).bind fun (y92, y93) => ((mementoref1_Reader_Num y93 1099511627776).bind fun (y105, y106) => ((mementoref16_takePlace y106).bind fun (y118, y119) => ((mementoref13_TakeItems y119).bind fun (y131, y132) => ((mementoref16_PutCmd (Api_VolCmd.mk (IntKind.wrap .i64 y) (IntKind.wrap .i64 y27) (IntKind.wrap .i64 y40) (IntKind.wrap .i64 y53) (IntKind.wrap .i64 y66) y118 (IntKind.wrap .i64 y79) (IntKind.wrap .i64 y92) (IntKind.wrap .i64 y105) y131)).bind fun (y144, y145) => ((if (y132.E != 0) then (some true) else (if (y145 != 0) then (some true) else (some ((strOf y144) != (strOf a0))))).bind fun t69 => (if t69 then (some ((Api_VolCmd.mk 0 0 0 0 0 ([] : (List Int)) 0 0 0 ([] : (List Api_Item))), 20)) else (some ((Api_VolCmd.mk (IntKind.wrap .i64 y) (IntKind.wrap .i64 y27) (IntKind.wrap .i64 y40) (IntKind.wrap .i64 y53) (IntKind.wrap .i64 y66) y118 (IntKind.wrap .i64 y79) (IntKind.wrap .i64 y92) (IntKind.wrap .i64 y105) y131), 0)))))))))))))))
def mementoref16_shape_L1 (a0 : Api_VolCmd) : Int → Option (Ctl (Ctl Bool Unit) Int)
 | t323 => (if (decide (t323 < (a0.Place.length : Int))) then (((idx a0.Place t323).bind fun x => (if (decide (x < 1)) then (some true) else (some (decide (x ≥ 8))))).bind fun t85 => (if t85 then (early (early (some false))) else (some (.go (IntKind.wrap .i64 (t323 + 1)))))) else (early (some (.go ()))))
def mementoref16_shape (a0 : Api_VolCmd) : Option Bool :=
 ((if (decide (a0.Vol < 0)) then (some true) else (if (decide (a0.Vol ≥ 8)) then (some true) else (if (decide (a0.Blocks < 1)) then (some true) else (if (decide (a0.Blocks > 256)) then (some true) else (if (decide (a0.Size < 1)) then (some true) else (if (decide (a0.Size > 32)) then (some true) else (if (decide (a0.Per < 1)) then (some true) else (if (decide (a0.Per > a0.Blocks)) then (some true) else ((mementoref16_Chunks a0.Blocks a0.Per).bind fun y => (if ((a0.Place.length : Int) != y) then (some true) else (if (decide (a0.Total < 0)) then (some true) else (some (decide (a0.Total > 1099511627776)))))))))))))).bind fun t64 => (if t64 then (some false) else (kont (loopN (mementoref16_shape_L1 a0) fuel 0) fun () => (some true))))
def mementoref16_New (vc : Api_VolCmd) : Option (Api_Volume × Int) :=
 ((mementoref16_shape vc).bind fun y => (if (!y) then (some ((Api_Volume.mk 0 0 0 0 ([] : (List Int)) 0 0 false 0 ([] : (List Int)) ([] : (List Api_Write))), 23)) else ((app 8 ([] : (List Int)) vc.Place).bind fun m => (some ((Api_Volume.mk vc.Vol vc.Blocks vc.Size vc.Per m vc.Total 0 (decide (vc.Total > 0)) 0 ([] : (List Int)) ([] : (List Api_Write))), 0)))))
def mementoref13_ItemsRight_L2 (l : (List Api_Item)) (i8 : Int) : Int → Option (Ctl (Ctl (Ctl (Ctl Bool Unit) Int) Unit) Int)
 | k29 => (if (decide (k29 < i8)) then ((idx l k29).bind fun x35 => ((idx l i8).bind fun x36 => (if (x35.Block == x36.Block) then (early (early (early (early (some false))))) else (some (.go (IntKind.wrap .i64 (k29 + 1))))))) else (early (some (.go ()))))
def mementoref13_ItemsRight_L1 (blocks : Int) (size : Int) (l : (List Api_Item)) : Int → Option (Ctl (Ctl Bool Unit) Int)
 | i8 => (if (decide (i8 < (l.length : Int))) then (((idx l i8).bind fun x => (if (decide (x.Block < 0)) then (some true) else (if (decide (x.Block ≥ blocks)) then (some true) else (some ((x.Data.length : Int) != size))))).bind fun t47 => (if t47 then (early (early (some false))) else (kont (loopN (mementoref13_ItemsRight_L2 l i8) fuel 0) fun () => (some (.go (IntKind.wrap .i64 (i8 + 1))))))) else (early (some (.go ()))))
def mementoref13_ItemsRight (blocks : Int) (size : Int) (l : (List Api_Item)) : Option Bool :=
 ((if (decide ((l.length : Int) < 1)) then (some true) else (some (decide ((l.length : Int) > 8)))).bind fun t16 => (if t16 then (some false) else (kont (loopN (mementoref13_ItemsRight_L1 blocks size l) fuel 0) fun () => (some true))))
def mementoref16_own_L1 (l : (List Api_Item)) : ((List Api_Item) × Int) → Option (Ctl (List Api_Item) ((List Api_Item) × Int))
 | (out9, i11) => (if (decide (i11 < (l.length : Int))) then ((idx l i11).bind fun x => ((app 1 ([] : (List Int)) x.Data).bind fun m => ((app 32 out9 ([(Api_Item.mk x.Block m)] : (List Api_Item))).bind fun m17 => (some (.go (m17, (IntKind.wrap .i64 (i11 + 1)))))))) else (early (some out9)))
def mementoref16_own (l : (List Api_Item)) : Option (List Api_Item) :=
 ((loopN (mementoref16_own_L1 l) fuel (([] : (List Api_Item)), 0)).bind fun out => (some out))
def mementoref16_write (v : Api_Volume) (l : (List Api_Item)) : Option Api_Volume :=
 ((app 32 ([] : (List Api_Write)) v.Writes).bind fun m => ((mementoref16_Len v).bind fun y => ((mementoref16_own l).bind fun y16 => ((app 32 m ([(Api_Write.mk (IntKind.wrap .i64 (y + 1)) y16)] : (List Api_Write))).bind fun m18 => (some (Api_Volume.mk v.Id v.Blocks v.Size v.Per v.Place v.Total v.Next v.Hidden v.Floor v.Pins m18))))))
def mementoref16_Low_L1 (v : Api_Volume) : (Int × Int) → Option (Ctl Int (Int × Int))
 | (n11, i12) => (if (decide (i12 < (v.Pins.length : Int))) then ((idx v.Pins i12).bind fun x => (some (.go ((minI n11 x), (IntKind.wrap .i64 (i12 + 1)))))) else (early (some n11)))
def mementoref16_Low (v : Api_Volume) : Option Int :=
 ((mementoref16_Len v).bind fun y => ((loopN (mementoref16_Low_L1 v) fuel (y, 0)).bind fun n => (some n)))
def mementoref16_done_L1 (a0 : Api_Volume) (a1 : Api_VolCmd) : Int → Option (Ctl Int Int)
 | t6109 => ((if (decide (t6109 < (a0.Pins.length : Int))) then ((idx a0.Pins t6109).bind fun x => (some (decide (x ≤ a1.At)))) else (some false)).bind fun t81 => (if t81 then (some (.go (IntKind.wrap .i64 (t6109 + 1)))) else (early (some t6109))))
def mementoref16_done_L2 (a0 : Api_Volume) (a1 : Api_VolCmd) : Int → Option (Ctl (Ctl (Ctl (Api_Volume × Int) Api_Volume) Unit) Int)
 | t7185 => (if (decide (t7185 < (a0.Pins.length : Int))) then ((idx a0.Pins t7185).bind fun x194 => (if (x194 == a1.At) then ((slc a0.Pins 0 t7185).bind fun m196 => ((app 8 ([] : (List Int)) m196).bind fun m197 => ((slc a0.Pins (IntKind.wrap .i64 (t7185 + 1)) (a0.Pins.length : Int)).bind fun m209 => ((app 8 m197 m209).bind fun m210 => (early (early (early (some ((Api_Volume.mk a0.Id a0.Blocks a0.Size a0.Per a0.Place a0.Total a0.Next a0.Hidden a0.Floor m210 a0.Writes), 0))))))))) else (some (.go (IntKind.wrap .i64 (t7185 + 1)))))) else (early (some (.go ()))))
def mementoref16_done (a0 : Api_Volume) (a1 : Api_VolCmd) : Option (Api_Volume × Int) :=
 (kont ((if (a1.Kind == 2) then (some (a1.Kind == 2)) else (if (a1.Kind == 3) then (some (a1.Kind == 3)) else (if (a1.Kind == 4) then (some (a1.Kind == 4)) else (some (a1.Kind == 5))))).bind fun t10 => (if t10 then (if a0.Hidden then (early (some (a0, 28))) else (some (.go ()))) else (some (.go ())))) fun () => (kont (if (a1.Kind == 2) then ((mementoref13_ItemsRight a0.Blocks a0.Size a1.Items).bind fun y => (if (!y) then (early (some (a0, 23))) else ((mementoref16_write a0 a1.Items).bind fun y50 => (early (some (y50, 0)))))) else (if (a1.Kind == 3) then (if (decide (a1.At < a0.Floor)) then (early (some (a0, 30))) else ((mementoref16_Low a0).bind fun y64 => (if (decide (a1.At > y64)) then (early (some (a0, 31))) else (some (.go (Api_Volume.mk a0.Id a0.Blocks a0.Size a0.Per a0.Place a0.Total a0.Next a0.Hidden a1.At a0.Pins a0.Writes)))))) else (if (a1.Kind == 4) then (if (decide (a1.At < a0.Floor)) then (early (some (a0, 30))) else ((mementoref16_Len a0).bind fun y84 => (if (decide (a1.At > y84)) then (early (some (a0, 31))) else ((loopN (mementoref16_done_L1 a0 a1) fuel 0).bind fun t6 => ((slc a0.Pins 0 t6).bind fun m => ((app 8 ([] : (List Int)) m).bind fun m124 => ((app 8 m124 ([a1.At] : (List Int))).bind fun m136 => ((slc a0.Pins t6 (a0.Pins.length : Int)).bind fun m148 => ((app 8 m136 m148).bind fun m149 => (some (.go (Api_Volume.mk a0.Id a0.Blocks a0.Size a0.Per a0.Place a0.Total a0.Next a0.Hidden a0.Floor m149 a0.Writes)))))))))))) else (if (a1.Kind == 5) then (kont (loopN (mementoref16_done_L2 a0 a1) fuel 0) fun () => (early (some (a0, 28)))) else (if (a1.Kind == 6) then (if (!a0.Hidden) then (early (some (a0, 33))) else ((if (decide (a1.Index ≥ 0)) then (some (decide (a1.Index < a0.Next))) else (some false)).bind fun t145 => (if t145 then (early (some (a0, 0))) else ((if (a1.Index != a0.Next) then (some true) else (some (a0.Next == a0.Total))).bind fun t158 => (if t158 then (early (some (a0, 33))) else ((mementoref13_ItemsRight a0.Blocks a0.Size a1.Items).bind fun y272 => (if (!y272) then (early (some (a0, 23))) else ((mementoref16_write a0 a1.Items).bind fun y280 => (some (.go (Api_Volume.mk y280.Id y280.Blocks y280.Size y280.Per y280.Place y280.Total (IntKind.wrap .i64 (y280.Next + 1)) y280.Hidden y280.Floor y280.Pins y280.Writes))))))))))) else (if (a1.Kind == 7) then ((if (!a0.Hidden) then (some true) else (some (a0.Next != a0.Total))).bind fun t188 => (if t188 then (early (some (a0, 33))) else ((mementoref16_Len a0).bind fun y306 => (some (.go (Api_Volume.mk a0.Id a0.Blocks a0.Size a0.Per a0.Place a0.Total a0.Next false y306 a0.Pins a0.Writes)))))) else (if (a1.Kind == 8) then (some (.go a0)) else (early (some (a0, 23)))))))))) fun me => (some (me, 0))))
def mementoref16_Do (v : Api_Volume) (vc : Api_VolCmd) : Option (Api_Volume × Api_Reply) :=
 ((mementoref16_done v vc).bind fun (y, y27) => (if (y27 != 0) then (some (v, (Api_Reply.mk y27 0 0 0 ([] : (List Int))))) else ((mementoref16_Len y).bind fun y62 => (some (y, (Api_Reply.mk 0 y62 y.Floor y.Next ([] : (List Int))))))))
def mementoref16_Machine_Apply_L1 (y : Api_VolCmd) (m : (List Api_Volume)) : Int → Option (Ctl Int Int)
 | t799 => ((if (decide (t799 < (m.length : Int))) then ((idx m t799).bind fun x => (some (decide (x.Id < y.Vol)))) else (some false)).bind fun t58 => (if t58 then (some (.go (IntKind.wrap .i64 (t799 + 1)))) else (early (some t799))))
def mementoref16_Machine_Apply (a0 : Mementoref16_Machine) (a1 : (List Int)) : Option (Api_Reply × Mementoref16_Machine) :=
 ((mementoref16_ReadCmd a1).bind fun (y, y2) => (if (y2 != 0) then (some ((Api_Reply.mk 20 0 0 0 ([] : (List Int))), a0)) else ((mementoref16_Machine_find a0 y.Vol).bind fun y22 => ((app 136 ([] : (List Api_Volume)) a0.L).bind fun m => (if (y.Kind == 1) then (if (decide (y22 ≥ 0)) then (some ((Api_Reply.mk 29 0 0 0 ([] : (List Int))), a0)) else ((mementoref16_New y).bind fun (y43, y44) => (if (y44 != 0) then (some ((Api_Reply.mk y44 0 0 0 ([] : (List Int))), a0)) else ((loopN (mementoref16_Machine_Apply_L1 y m) fuel 0).bind fun t7 => ((slc m 0 t7).bind fun m125 => ((app 136 ([] : (List Api_Volume)) m125).bind fun m126 => ((app 136 m126 ([y43] : (List Api_Volume))).bind fun m140 => ((slc m t7 (m.length : Int)).bind fun m154 => ((app 136 m140 m154).bind fun m155 => (some ((Api_Reply.mk 0 0 0 0 ([] : (List Int))), (Mementoref16_Machine.mk m155)))))))))))) else (if (decide (y22 < 0)) then (some ((Api_Reply.mk 28 0 0 0 ([] : (List Int))), a0)) else ((idx m y22).bind fun x197 => ((mementoref16_Do x197 y).bind fun (y198, y199) => ((updL m y22 y198).bind fun m245 => (some (y199, (Mementoref16_Machine.mk m245))))))))))))
def mementoseat_Volume_L1 (a0 : (List Int)) : (Int × Mementoref16_Machine) → Option (Ctl Mementoref16_Machine (Int × Mementoref16_Machine))
 | (t420, me221) => (if (decide ((IntKind.wrap .i64 (t420 + 3)) < (a0.length : Int))) then ((mementoref16_Machine_Volume me221 0).bind fun (y, y27) => ((idx a0 t420).bind fun x => ((idx a0 (IntKind.wrap .i64 (t420 + 1))).bind fun x42 => ((idx a0 (IntKind.wrap .i64 (t420 + 2))).bind fun x43 => ((idx a0 (IntKind.wrap .i64 (t420 + 3))).bind fun x44 => ((mementoseat_Cmd y y27 x x42 x43 x44).bind fun y45 => ((mementoref16_PutCmd y45).bind fun (y47, y48) => ((mementoref16_Machine_Apply me221 y47).bind fun (y50, y51) => (some (.go ((IntKind.wrap .i64 (t420 + 4)), y51))))))))))) else (early (some me221)))
def mementoseat_Volume (a0 : (List Int)) : Option Api_Volume :=
 ((loopN (mementoseat_Volume_L1 a0) fuel (0, (Mementoref16_Machine.mk ([] : (List Api_Volume))))).bind fun me2 => (if ((me2.L.length : Int) == 0) then ((mementoseat_Create 0 3 1 1 0).bind fun y59 => ((mementoref16_New y59).bind fun (y61, y62) => (some y61))) else ((idx me2.L 0).bind fun x83 => (some x83))))
def mementoref16_State_L1 (v : Api_Volume) : ((List (List Int)) × Int) → Option (Ctl (List (List Int)) ((List (List Int)) × Int))
 | (out29, i31) => (if (decide (i31 < v.Blocks)) then ((mks 1 0 v.Size).bind fun m => ((app 24 out29 ([m] : (List (List Int)))).bind fun m41 => (some (.go (m41, (IntKind.wrap .i64 (i31 + 1))))))) else (early (some out29)))
def mementoref16_State_L3 (x : Api_Write) : (Int × (List (List Int))) → Option (Ctl (List (List Int)) (Int × (List (List Int))))
 | (i116, mgout117) => (if (decide (i116 < (x.Items.length : Int))) then ((idx x.Items i116).bind fun x127 => ((idx mgout117 x127.Block).bind fun x128 => ((updL mgout117 x127.Block x127.Data).bind fun m129 => (some (.go ((IntKind.wrap .i64 (i116 + 1)), m129)))))) else (early (some mgout117)))
def mementoref16_State_L2 (v : Api_Volume) (t : Int) : (Int × (List (List Int))) → Option (Ctl (List (List Int)) (Int × (List (List Int))))
 | (vs70, mgout71) => (if (decide (vs70 < t)) then ((idx v.Writes vs70).bind fun x => ((loopN (mementoref16_State_L3 x) fuel (0, mgout71)).bind fun mgout94 => (some (.go ((IntKind.wrap .i64 (vs70 + 1)), mgout94))))) else (early (some mgout71)))
def mementoref16_State (v : Api_Volume) (t : Int) : Option ((List (List Int)) × Int) :=
 (if (decide (t < v.Floor)) then (some (([] : (List (List Int))), 30)) else ((mementoref16_Len v).bind fun y => (if (decide (t > y)) then (some (([] : (List (List Int))), 31)) else ((loopN (mementoref16_State_L1 v) fuel (([] : (List (List Int))), 0)).bind fun out => ((loopN (mementoref16_State_L2 v t) fuel (0, out)).bind fun mgout => (some (mgout, 0)))))))
def mementolaw22_streams_L4 (t1497 : Int) (x173 : Api_Write) : (Bool × Int) → Option (Ctl Bool (Bool × Int))
 | (t15207, t18208) => (if (decide (t18208 < (x173.Items.length : Int))) then ((if t15207 then (some true) else ((idx x173.Items t18208).bind fun x234 => (some (x234.Block == t1497)))).bind fun t15222 => (some (.go (t15222, (IntKind.wrap .i64 (t18208 + 1)))))) else (early (some t15207)))
def mementolaw22_streams_L3 (y : Api_Volume) (t835 : Int) (x46 : Int) (t1497 : Int) : (Bool × Int) → Option (Ctl Bool (Bool × Int))
 | (t15158, t16159) => (if (decide (t16159 < (IntKind.wrap .i64 ((maxI t835 0) + x46)))) then ((idx y.Writes t16159).bind fun x173 => ((loopN (mementolaw22_streams_L4 t1497 x173) fuel (t15158, 0)).bind fun t15174 => (some (.go (t15174, (IntKind.wrap .i64 (t16159 + 1))))))) else (early (some t15158)))
def mementolaw22_streams_L2 (y : Api_Volume) (t835 : Int) (x46 : Int) (y64 : (List (List Int))) : (Int × (List Api_Item)) → Option (Ctl (List Api_Item) (Int × (List Api_Item)))
 | (t1497, me48_Items98) => (if (decide (t1497 < y.Blocks)) then (((loopN (mementolaw22_streams_L3 y t835 x46 t1497) fuel ((decide (t835 < 0)), (maxI t835 0))).bind fun t15 => (if t15 then ((idx y64 t1497).bind fun x236 => ((app 32 me48_Items98 ([(Api_Item.mk t1497 x236)] : (List Api_Item))).bind fun m => (some m))) else (some me48_Items98))).bind fun me48_Items113 => (some (.go ((IntKind.wrap .i64 (t1497 + 1)), me48_Items113)))) else (early (some me48_Items98)))
def mementolaw22_streams_L1 (a1 : (List Int)) (y : Api_Volume) : ((List Api_Stream) × Int × Int) → Option (Ctl (List Api_Stream) ((List Api_Stream) × Int × Int))
 | (t733, t835, t936) => (if (decide (t936 < (a1.length : Int))) then ((idx a1 t936).bind fun x => ((mementoref16_Len (Api_Volume.mk y.Id y.Blocks y.Size y.Per y.Place y.Total y.Next y.Hidden 0 y.Pins y.Writes)).bind fun y44 => ((remI (IntKind.wrap .i64 x) (IntKind.wrap .i64 ((IntKind.wrap .i64 (y44 - (maxI t835 0))) + 1))).bind fun x46 => ((mementoref16_State (Api_Volume.mk y.Id y.Blocks y.Size y.Per y.Place y.Total y.Next y.Hidden 0 y.Pins y.Writes) (IntKind.wrap .i64 ((maxI t835 0) + x46))).bind fun (y64, y65) => ((loopN (mementolaw22_streams_L2 y t835 x46 y64) fuel (0, ([] : (List Api_Item)))).bind fun me48_Items => ((app 56 t733 ([(Api_Stream.mk y.Blocks y.Size t835 (IntKind.wrap .i64 ((maxI t835 0) + x46)) me48_Items)] : (List Api_Stream))).bind fun m257 => (some (.go (m257, (IntKind.wrap .i64 ((maxI t835 0) + x46)), (IntKind.wrap .i64 (t936 + 1))))))))))) else (early (some t733)))
def mementolaw22_streams (a0 : (List Int)) (a1 : (List Int)) : Option ((List Api_Stream) × Api_Volume) :=
 ((mementoseat_Volume a0).bind fun y => ((loopN (mementolaw22_streams_L1 a1 y) fuel (([] : (List Api_Stream)), (-1), 0)).bind fun t7 => (some (t7, (Api_Volume.mk y.Id y.Blocks y.Size y.Per y.Place y.Total y.Next y.Hidden 0 y.Pins y.Writes)))))
def mementoref21_Right_L1 (a0 : Api_Stream) : (Int × Int) → Option (Ctl (Ctl Bool Unit) (Int × Int))
 | (t322, t423) => (if (decide (t423 < (a0.Items.length : Int))) then (((idx a0.Items t423).bind fun x => (if (decide (x.Block ≤ t322)) then (some true) else (if (decide (x.Block ≥ a0.Blocks)) then (some true) else (some ((x.Data.length : Int) != a0.Size))))).bind fun t95 => (if t95 then (early (early (some false))) else ((idx a0.Items t423).bind fun x37 => (some (.go (x37.Block, (IntKind.wrap .i64 (t423 + 1)))))))) else (early (some (.go ()))))
def mementoref21_Right (a0 : Api_Stream) : Option Bool :=
 ((if (decide (a0.Blocks < 1)) then (some true) else (if (decide (a0.Blocks > 256)) then (some true) else (if (decide (a0.Size < 1)) then (some true) else (if (decide (a0.Size > 32)) then (some true) else (if (decide (a0.From < (-1))) then (some true) else (if (decide (a0.To < 0)) then (some true) else (if (decide (a0.To > 1099511627776)) then (some true) else (if (decide (a0.To < a0.From)) then (some true) else (if (decide (a0.From < 0)) then (some ((a0.Items.length : Int) != a0.Blocks)) else (some false)))))))))).bind fun t57 => (if t57 then (some false) else (kont (loopN (mementoref21_Right_L1 a0) fuel ((-1), 0)) fun () => (some true))))
def mementoref1_row_L1 : (Int × Int) → Option (Ctl Int (Int × Int))
 | (vc8, k9) => (if (decide (k9 < 8)) then ((if ((Go.bits .and .u32 vc8 1) == 1) then (some (Go.bits .xor .u32 (shrI vc8 1) 2197175160)) else (some (shrI vc8 1))).bind fun vc14 => (some (.go (vc14, (IntKind.wrap .i64 (k9 + 1)))))) else (early (some vc8)))
def mementoref1_row (vc : Int) : Option Int :=
 ((loopN (mementoref1_row_L1) fuel (vc, 0)).bind fun vc1 => (some vc1))
def mementoref1_More_L1 (b : (List Int)) : (Int × Int) → Option (Ctl Int (Int × Int))
 | (vc7, i8) => (if (decide (i8 < (b.length : Int))) then ((idx b i8).bind fun x => ((mementoref1_row (Go.bits .xor .u32 (Go.bits .and .u32 vc7 255) (IntKind.wrap .u32 x))).bind fun y => (some (.go ((Go.bits .xor .u32 y (shrI vc7 8)), (IntKind.wrap .i64 (i8 + 1))))))) else (early (some vc7)))
def mementoref1_More (vc : Int) (b : (List Int)) : Option Int :=
 ((loopN (mementoref1_More_L1 b) fuel ((notI .u32 vc), 0)).bind fun vc1 => (some (notI .u32 vc1)))
def mementoref1_Sum (b : (List Int)) : Option Int :=
 ((mementoref1_More 0 b).bind fun y => (some y))
def mementoref1_Four (vc : Int) : Option (List Int) :=
 (some ([(IntKind.wrap .u8 vc), (IntKind.wrap .u8 (shrI vc 8)), (IntKind.wrap .u8 (shrI vc 16)), (IntKind.wrap .u8 (shrI vc 24))] : (List Int)))
def mementoref1_Seal (b : (List Int)) : Option (List Int) :=
 ((app 1 ([] : (List Int)) b).bind fun m => ((mementoref1_Sum b).bind fun y => ((mementoref1_Four y).bind fun y1 => ((app 1 m y1).bind fun m3 => (some m3)))))
def mementoref21_Put_L1 (vs : Api_Stream) : ((List Int) × Int) → Option (Ctl (List Int) ((List Int) × Int))
 | (b47, i49) => (if (decide (i49 < (vs.Items.length : Int))) then ((idx vs.Items i49).bind fun x => ((mementoref1_Put ([(IntKind.wrap .u64 x.Block)] : (List Int))).bind fun y57 => ((app 1 y57 x.Data).bind fun m68 => ((mementoref1_Seal m68).bind fun y78 => ((app 1 b47 y78).bind fun m80 => (some (.go (m80, (IntKind.wrap .i64 (i49 + 1)))))))))) else (early (some b47)))
def mementoref21_Put (vs : Api_Stream) : Option ((List Int) × Int) :=
 ((mementoref21_Right vs).bind fun y => (if (!y) then (some (([] : (List Int)), 23)) else ((mementoref1_Put ([(IntKind.wrap .u64 vs.Blocks), (IntKind.wrap .u64 vs.Size), (IntKind.wrap .u64 (IntKind.wrap .i64 (vs.From + 1))), (IntKind.wrap .u64 vs.To), (IntKind.wrap .u64 (vs.Items.length : Int))] : (List Int))).bind fun y10 => ((app 1 ([77, 69, 77, 79, 49] : (List Int)) y10).bind fun m => ((mementoref1_Seal m).bind fun y19 => ((loopN (mementoref21_Put_L1 vs) fuel (y19, 0)).bind fun b => ((mementoref1_Sum b).bind fun y90 => ((mementoref1_Four y90).bind fun y92 => ((app 1 b y92).bind fun m94 => (some (m94, 0)))))))))))
def mementoref1_Open (b : (List Int)) : Option ((List Int) × Bool) :=
 ((if (decide ((IntKind.wrap .i64 ((b.length : Int) - 4)) < 0)) then (some true) else ((slc b 0 (IntKind.wrap .i64 ((b.length : Int) - 4))).bind fun m => ((mementoref1_Sum m).bind fun y => ((mementoref1_Four y).bind fun y1 => ((slc b (IntKind.wrap .i64 ((b.length : Int) - 4)) (b.length : Int)).bind fun m3 => (some ((strOf y1) != (strOf m3)))))))).bind fun t22 => (if t22 then (some (([] : (List Int)), false)) else ((slc b 0 (IntKind.wrap .i64 ((b.length : Int) - 4))).bind fun m4 => (some (m4, true)))))
def mementoref21_skip (vr : Mementoref1_Reader) (n : Int) : Option ((List Int) × Mementoref1_Reader) :=
 (if (decide (n > (vr.B.length : Int))) then (some (([] : (List Int)), (Mementoref1_Reader.mk ([] : (List Int)) 21))) else ((slc vr.B 0 n).bind fun m => ((slc vr.B n (vr.B.length : Int)).bind fun m7 => (some (m, (Mementoref1_Reader.mk m7 vr.E))))))
def mementoref21_Read_L1 (y45 : Int) (y84 : Int) : (Int × Mementoref1_Reader × (List Api_Item)) → Option (Ctl (Mementoref1_Reader × (List Api_Item)) (Int × Mementoref1_Reader × (List Api_Item)))
 | (t9123, me18124, me24_Items125) => ((if (decide (t9123 < (IntKind.wrap .i64 y84))) then (some (me18124.E == 0)) else (some false)).bind fun t70 => (if t70 then ((mementoref1_Reader_Num me18124 256).bind fun (y146, y147) => ((mementoref21_skip y147 (IntKind.wrap .i64 y45)).bind fun (y155, y156) => ((app 32 me24_Items125 ([(Api_Item.mk (IntKind.wrap .i64 y146) y155)] : (List Api_Item))).bind fun m164 => ((mementoref21_skip y156 4).bind fun (y182, y183) => (some (.go ((IntKind.wrap .i64 (t9123 + 1)), y183, m164))))))) else (early (some (me18124, me24_Items125)))))
def mementoref21_Read (a0 : (List Int)) : Option (Api_Stream × Int) :=
 (if (decide ((a0.length : Int) < 4)) then (some ((Api_Stream.mk 0 0 0 0 ([] : (List Api_Item))), 21)) else ((mementoref1_Open a0).bind fun (y, y4) => (if (!y4) then (some ((Api_Stream.mk 0 0 0 0 ([] : (List Api_Item))), 24)) else ((if (decide ((y.length : Int) < 5)) then (some true) else ((slc y 0 5).bind fun m => (some ((strOf m) != ([77, 69, 77, 79, 49] : List UInt8))))).bind fun t33 => (if t33 then (some ((Api_Stream.mk 0 0 0 0 ([] : (List Api_Item))), 20)) else ((slc y 5 (y.length : Int)).bind fun m16 => ((mementoref1_Reader_Num (Mementoref1_Reader.mk m16 0) 256).bind fun (y32, y33) => ((mementoref1_Reader_Num y33 32).bind fun (y45, y46) => ((mementoref1_Reader_Num y46 1099511627777).bind fun (y58, y59) => ((mementoref1_Reader_Num y59 1099511627776).bind fun (y71, y72) => ((mementoref1_Reader_Num y72 256).bind fun (y84, y85) => ((mementoref21_skip y85 4).bind fun (y92, y93) => ((loopN (mementoref21_Read_L1 y45 y84) fuel (0, y93, ([] : (List Api_Item)))).bind fun (me18, me24_Items) => ((mementoref21_Put (Api_Stream.mk (IntKind.wrap .i64 y32) (IntKind.wrap .i64 y45) (IntKind.wrap .i64 ((IntKind.wrap .i64 y58) - 1)) (IntKind.wrap .i64 y71) me24_Items)).bind fun (y191, y192) => ((if (me18.E != 0) then (some true) else (if (y192 != 0) then (some true) else (some ((strOf y191) != (strOf a0))))).bind fun t109 => (if t109 then (some ((Api_Stream.mk 0 0 0 0 ([] : (List Api_Item))), 20)) else (some ((Api_Stream.mk (IntKind.wrap .i64 y32) (IntKind.wrap .i64 y45) (IntKind.wrap .i64 ((IntKind.wrap .i64 y58) - 1)) (IntKind.wrap .i64 y71) me24_Items), 0))))))))))))))))))
def mementoref21_Follows (a : Api_Stream) (b : Api_Stream) : Option Bool :=
 (((mementoref21_Right a).bind fun y => (if y then ((mementoref21_Right b).bind fun y11 => (if y11 then (if (a.Blocks == b.Blocks) then (if (a.Size == b.Size) then (some (b.From == a.To)) else (some false)) else (some false)) else (some false))) else (some false))).bind fun t4 => (some t4))
def mementoref21_bad_L1 (l : (List Api_Stream)) : Int → Option (Ctl (Ctl Int Unit) Int)
 | i9 => (if (decide (i9 < (l.length : Int))) then ((idx l (IntKind.wrap .i64 (i9 - 1))).bind fun x15 => ((idx l i9).bind fun x16 => ((mementoref21_Follows x15 x16).bind fun y17 => (if (!y17) then (early (early (some i9))) else (some (.go (IntKind.wrap .i64 (i9 + 1)))))))) else (early (some (.go ()))))
def mementoref21_bad (l : (List Api_Stream)) : Option Int :=
 ((if ((l.length : Int) == 0) then (some true) else ((idx l 0).bind fun x => ((mementoref21_Right x).bind fun y => (if (!y) then (some true) else (some (decide (x.From ≥ 0))))))).bind fun t20 => (if t20 then (some 0) else (kont (loopN (mementoref21_bad_L1 l) fuel 1) fun () => (some (-1)))))
def mementoref21_Decode_L1 (l : (List (List Int))) : ((List Api_Stream) × Int) → Option (Ctl (Ctl ((List Api_Stream) × Int × Int) (List Api_Stream)) ((List Api_Stream) × Int))
 | (out9, i11) => (if (decide (i11 < (l.length : Int))) then ((idx l i11).bind fun x => ((mementoref21_Read x).bind fun (y, y18) => (if (y18 != 0) then (early (early (some (([] : (List Api_Stream)), i11, y18)))) else ((app 56 out9 ([y] : (List Api_Stream))).bind fun m => (some (.go (m, (IntKind.wrap .i64 (i11 + 1))))))))) else (early (some (.go out9))))
def mementoref21_Decode (l : (List (List Int))) : Option ((List Api_Stream) × Int × Int) :=
 (kont (loopN (mementoref21_Decode_L1 l) fuel (([] : (List Api_Stream)), 0)) fun out => ((mementoref21_bad out).bind fun y36 => (if (decide (y36 ≥ 0)) then (some (([] : (List Api_Stream)), y36, 38)) else (some (out, 0, 0)))))
def mementolaw22_ChainDecodes_L1 (y3 : (List Api_Stream)) : ((List (List Int)) × Int) → Option (Ctl (List (List Int)) ((List (List Int)) × Int))
 | (t1527, t1629) => (if (decide (t1629 < (y3.length : Int))) then ((idx y3 t1629).bind fun x => ((mementoref21_Put x).bind fun (y37, y38) => ((app 24 t1527 ([y37] : (List (List Int)))).bind fun m => (some (.go (m, (IntKind.wrap .i64 (t1629 + 1)))))))) else (early (some t1527)))
def mementolaw22_ChainDecodes_L2 (a2 : (List (List Int))) : Int → Option (Ctl (Ctl Bool Unit) Int)
 | t22125 => (if (decide (t22125 < (a2.length : Int))) then ((idx a2 t22125).bind fun x136 => (if (decide ((x136.length : Int) > 60)) then (early (early (some true))) else (some (.go (IntKind.wrap .i64 (t22125 + 1)))))) else (early (some (.go ()))))
def mementolaw22_ChainDecodes_L4 (y181 : (List Api_Stream)) (y185 : (List Api_Stream)) : Int → Option (Ctl (Ctl (Ctl (Ctl Bool Unit) Int) Unit) Int)
 | t31207 => (if (decide (t31207 < (y185.length : Int))) then ((idx y181 t31207).bind fun x214 => ((idx y185 t31207).bind fun x215 => ((mementohelp_Streams x214 x215).bind fun y216 => (if (!y216) then (early (early (early (early (some false))))) else (some (.go (IntKind.wrap .i64 (t31207 + 1)))))))) else (early (some (.go ()))))
def mementolaw22_ChainDecodes_L3 (a2 : (List (List Int))) (t15 : (List (List Int))) (me48 : (List (List Int))) (m151 : (List (List Int))) (m161 : (List (List Int))) : Int → Option (Ctl (Ctl Bool Unit) Int)
 | t127173 => (if (decide (t127173 < (([t15, me48, a2, m151, m161] : (List (List (List Int)))).length : Int))) then ((idx ([t15, me48, a2, m151, m161] : (List (List (List Int)))) t127173).bind fun x180 => ((chain_Decode x180).bind fun (y181, y182, y183) => ((mementoref21_Decode x180).bind fun (y185, y186, y187) => ((if (y183 != y187) then (some true) else (if (y182 != y186) then (some true) else (some ((y181.length : Int) != (y185.length : Int))))).bind fun t157 => (if t157 then (early (early (some false))) else (kont (loopN (mementolaw22_ChainDecodes_L4 y181 y185) fuel 0) fun () => (some (.go (IntKind.wrap .i64 (t127173 + 1)))))))))) else (early (some (.go ()))))
def mementolaw22_ChainDecodes (a0 : (List Int)) (a1 : (List Int)) (a2 : (List (List Int))) (a3 : Int) (a4 : Int) (a5 : Int) : Option Bool :=
 ((mementolaw22_known).bind fun y => (if (!y) then (some false) else ((if (decide ((a0.length : Int) > 60)) then (some true) else (if (decide ((a1.length : Int) > 5)) then (some true) else (some (decide ((a2.length : Int) > 4))))).bind fun t46 => (if t46 then (some true) else ((mementolaw22_streams a0 a1).bind fun (y3, y4) => ((loopN (mementolaw22_ChainDecodes_L1 y3) fuel (([] : (List (List Int))), 0)).bind fun t15 => ((app 24 ([] : (List (List Int))) t15).bind fun m46 => ((if (decide ((m46.length : Int) > 0)) then ((remI (IntKind.wrap .i64 a5) (m46.length : Int)).bind fun x65 => ((idx m46 x65).bind fun x66 => ((app 1 ([] : (List Int)) x66).bind fun m67 => ((remI (IntKind.wrap .i64 a3) (m67.length : Int)).bind fun x80 => ((idx m67 x80).bind fun x81 => ((updL m67 x80 (Go.bits .xor .u8 x81 a4)).bind fun m82 => ((updL m46 x65 m82).bind fun m95 => (some m95)))))))) else (some m46)).bind fun me48 => (kont (loopN (mementolaw22_ChainDecodes_L2 a2) fuel 0) fun () => ((app 24 m46 a2).bind fun m151 => ((slc t15 (minI 1 (t15.length : Int)) (t15.length : Int)).bind fun m161 => (kont (loopN (mementolaw22_ChainDecodes_L3 a2 t15 me48 m151 m161) fuel 0) fun () => (some true)))))))))))))
end Go.Proofs.YtgdbmgnfaefhoaaGreat.Am
