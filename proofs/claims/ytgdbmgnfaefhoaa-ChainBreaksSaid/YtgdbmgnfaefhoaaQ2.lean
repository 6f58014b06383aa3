/- Part 2 of the proof: values, memory, walks or the plain law. -/
import Derived.Test.YtgdbmgnfaefhoaaQ1
import Derived.Test.YtgdbmgnfaefhoaaProg
import Derived.KernelRfl
namespace Go.Proofs.Ytgdbmgnfaefhoaa.Am
open Go
set_option linter.unusedVariables false
set_option maxRecDepth 10000
structure Api_Item where
 Block : Int
 Data : (List Int)
deriving Inhabited
def c_Api_Item (x : Api_Item) : List PV := [.sc (.int .i64 x.Block), .sl 1 (x.Data.map c_u8)]
structure Api_Stream where
 Blocks : Int
 Size : Int
 From : Int
 To : Int
 Items : (List Api_Item)
deriving Inhabited
def c_Api_Stream (x : Api_Stream) : List PV := [.sc (.int .i64 x.Blocks), .sc (.int .i64 x.Size), .sc (.int .i64 x.From), .sc (.int .i64 x.To), .sl 2 (x.Items.map c_Api_Item)]
structure Pack_rest where
 b : (List Int)
 e : Int
deriving Inhabited
structure Pack_Reader where
 rest : Pack_rest
deriving Inhabited
structure Api_Write where
 Seq : Int
 Items : (List Api_Item)
deriving Inhabited
def c_Api_Write (x : Api_Write) : List PV := [.sc (.int .i64 x.Seq), .sl 2 (x.Items.map c_Api_Item)]
structure Api_Volume where
 Id : Int
 Blocks : Int
 Size : Int
 Per : Int
 Place : (List Int)
 Total : Int
 Next : Int
 Hidden : Bool
 Floor : Int
 Pins : (List Int)
 Writes : (List Api_Write)
deriving Inhabited
def c_Api_Volume (x : Api_Volume) : List PV := [.sc (.int .i64 x.Id), .sc (.int .i64 x.Blocks), .sc (.int .i64 x.Size), .sc (.int .i64 x.Per), .sl 1 (x.Place.map c_i64), .sc (.int .i64 x.Total), .sc (.int .i64 x.Next), .sc (.bool x.Hidden), .sc (.int .i64 x.Floor), .sl 1 (x.Pins.map c_i64), .sl 2 (x.Writes.map c_Api_Write)]
structure Mementoref16_Machine where
 L : (List Api_Volume)
deriving Inhabited
structure Api_VolCmd where
 Kind : Int
 Vol : Int
 Blocks : Int
 Size : Int
 Per : Int
 Place : (List Int)
 Total : Int
 At : Int
 Index : Int
 Items : (List Api_Item)
deriving Inhabited
structure Mementoref1_Reader where
 B : (List Int)
 E : Int
deriving Inhabited
structure Api_Reply where
 Code : Int
 Len : Int
 Floor : Int
 Next : Int
 Data : (List Int)
deriving Inhabited
abbrev k_Api_Stream (x : Api_Stream) : List AV := [.sc (.int .i64 x.Blocks), .sc (.int .i64 x.Size), .sc (.int .i64 x.From), .sc (.int .i64 x.To), .sl 2 (x.Items.map c_Api_Item) .no]
abbrev z_Api_Stream : List AV := [.sc (.int .i64 0), .sc (.int .i64 0), .sc (.int .i64 0), .sc (.int .i64 0), .sc (.slice none 0 0)]
abbrev k_Api_Volume (x : Api_Volume) : List AV := [.sc (.int .i64 x.Id), .sc (.int .i64 x.Blocks), .sc (.int .i64 x.Size), .sc (.int .i64 x.Per), .sl 1 (x.Place.map c_i64) .no, .sc (.int .i64 x.Total), .sc (.int .i64 x.Next), .sc (.bool x.Hidden), .sc (.int .i64 x.Floor), .sl 1 (x.Pins.map c_i64) .no, .sl 2 (x.Writes.map c_Api_Write) .no]
abbrev z_Api_Volume : List AV := [.sc (.int .i64 0), .sc (.int .i64 0), .sc (.int .i64 0), .sc (.int .i64 0), .sc (.slice none 0 0), .sc (.int .i64 0), .sc (.int .i64 0), .sc (.bool false), .sc (.int .i64 0), .sc (.slice none 0 0), .sc (.slice none 0 0)]
abbrev k_Api_VolCmd (x : Api_VolCmd) : List AV := [.sc (.int .i64 x.Kind), .sc (.int .i64 x.Vol), .sc (.int .i64 x.Blocks), .sc (.int .i64 x.Size), .sc (.int .i64 x.Per), .sl 1 (x.Place.map c_i64) .no, .sc (.int .i64 x.Total), .sc (.int .i64 x.At), .sc (.int .i64 x.Index), .sl 2 (x.Items.map c_Api_Item) .no]
abbrev z_Api_VolCmd : List AV := [.sc (.int .i64 0), .sc (.int .i64 0), .sc (.int .i64 0), .sc (.int .i64 0), .sc (.int .i64 0), .sc (.slice none 0 0), .sc (.int .i64 0), .sc (.int .i64 0), .sc (.int .i64 0), .sc (.slice none 0 0)]
abbrev k_Api_Reply (x : Api_Reply) : List AV := [.sc (.int .i64 x.Code), .sc (.int .i64 x.Len), .sc (.int .i64 x.Floor), .sc (.int .i64 x.Next), .sl 1 (x.Data.map c_u8) .no]
def stream_Right_L1 (a0 : Api_Stream) : Int → Option (Ctl (Ctl Bool Unit) Int)
 | t5721 => (if (decide (t5721 < (a0.Items.length : Int))) then ((idx a0.Items t5721).bind fun x => ((if (decide (x.Block < 0)) then (some true) else (if (decide (x.Block ≥ a0.Blocks)) then (some true) else (if (decide (t5721 > 0)) then ((idx a0.Items (IntKind.wrap .i64 (t5721 - 1))).bind fun x46 => (if (decide (x.Block ≤ x46.Block)) then (some true) else (some ((x.Data.length : Int) != a0.Size)))) else (some ((x.Data.length : Int) != a0.Size))))).bind fun t95 => (if t95 then (early (early (some false))) else (some (.go (IntKind.wrap .i64 (t5721 + 1))))))) else (early (some (.go ()))))
def stream_Right (a0 : Api_Stream) : Option Bool :=
 ((if (decide (a0.Blocks < 1)) then (some true) else (if (decide (a0.Blocks > 256)) then (some true) else (if (decide (a0.Size < 1)) then (some true) else (if (decide (a0.Size > 32)) then (some true) else (if (decide (a0.From < (-1))) then (some true) else (if (decide (a0.To < (maxI a0.From 0))) then (some true) else (if (decide (a0.To > 1099511627776)) then (some true) else (if (decide (a0.From < 0)) then (some ((a0.Items.length : Int) != a0.Blocks)) else (some false))))))))).bind fun t53 => (if t53 then (some false) else (kont (loopN (stream_Right_L1 a0) fuel 0) fun () => (some true))))
def chain_Follows (a : Api_Stream) (b : Api_Stream) : Option Bool :=
 (((stream_Right a).bind fun y => (if y then ((stream_Right b).bind fun y11 => (if y11 then (if (a.Blocks == b.Blocks) then (if (a.Size == b.Size) then (some (b.From == a.To)) else (some false)) else (some false)) else (some false))) else (some false))).bind fun t4 => (some t4))
def slices_Grow_Lapi_Item_api_Item_nil (n : Int) : Option (List Api_Item) :=
 (if (decide (n < 0)) then none else (if (decide ((IntKind.wrap .i64 (n - (IntKind.wrap .i64 (0 - 0)))) > 0)) then ((slc ([] : (List Api_Item)) 0 0).bind fun m => ((mkz 32 (IntKind.wrap .i64 (n - (IntKind.wrap .i64 (0 - 0))))).bind fun u => (some ([] : (List Api_Item))))) else (some ([] : (List Api_Item)))))
def slices_Concat_Lapi_Item_api_Item_L1 (slices : (List (List Api_Item))) : (Int × Int) → Option (Ctl Int (Int × Int))
 | (size6, t117) => (if (decide (t117 < (slices.length : Int))) then ((idx slices t117).bind fun x => (if (decide ((IntKind.wrap .i64 (size6 + (x.length : Int))) < 0)) then none else (some (.go ((IntKind.wrap .i64 (size6 + (x.length : Int))), (IntKind.wrap .i64 (t117 + 1))))))) else (early (some size6)))
def slices_Concat_Lapi_Item_api_Item_L2 (slices : (List (List Api_Item))) : ((List Api_Item) × Int) → Option (Ctl (List Api_Item) ((List Api_Item) × Int))
 | (newslice29, t2731) => (if (decide (t2731 < (slices.length : Int))) then ((idx slices t2731).bind fun x39 => ((app 32 newslice29 x39).bind fun m => (some (.go (m, (IntKind.wrap .i64 (t2731 + 1))))))) else (early (some newslice29)))
def slices_Concat_Lapi_Item_api_Item (slices : (List (List Api_Item))) : Option (List Api_Item) :=
 ((loopN (slices_Concat_Lapi_Item_api_Item_L1 slices) fuel (0, 0)).bind fun size => ((slices_Grow_Lapi_Item_api_Item_nil size).bind fun y => ((loopN (slices_Concat_Lapi_Item_api_Item_L2 slices) fuel (y, 0)).bind fun newslice => (some newslice))))
def slices_insertionSortCmpFunc_api_Item_L2 (a : Int) (cmp : (Api_Item → Api_Item → Option Int)) : (Int × (List Api_Item)) → Option (Ctl (List Api_Item) (Int × (List Api_Item)))
 | (j32, mpdata33) => ((if (decide (j32 > a)) then ((idx mpdata33 j32).bind fun x => ((idx mpdata33 (IntKind.wrap .i64 (j32 - 1))).bind fun x45 => ((cmp x x45).bind fun y => (some (decide (y < 0)))))) else (some false)).bind fun t34 => (if t34 then ((idx mpdata33 (IntKind.wrap .i64 (j32 - 1))).bind fun x47 => ((idx mpdata33 j32).bind fun x48 => ((updL mpdata33 j32 x47).bind fun m => ((idx m (IntKind.wrap .i64 (j32 - 1))).bind fun x53 => ((updL m (IntKind.wrap .i64 (j32 - 1)) x48).bind fun m54 => (some (.go ((IntKind.wrap .i64 (j32 - 1)), m54)))))))) else (early (some mpdata33))))
def slices_insertionSortCmpFunc_api_Item_L1 (a : Int) (b : Int) (cmp : (Api_Item → Api_Item → Option Int)) : (Int × (List Api_Item)) → Option (Ctl (List Api_Item) (Int × (List Api_Item)))
 | (i10, mpdata11) => (if (decide (i10 < b)) then ((loopN (slices_insertionSortCmpFunc_api_Item_L2 a cmp) fuel (i10, mpdata11)).bind fun mpdata17 => (some (.go ((IntKind.wrap .i64 (i10 + 1)), mpdata17)))) else (early (some mpdata11)))
def slices_insertionSortCmpFunc_api_Item (data : (List Api_Item)) (a : Int) (b : Int) (cmp : (Api_Item → Api_Item → Option Int)) : Option (List Api_Item) :=
 ((loopN (slices_insertionSortCmpFunc_api_Item_L1 a b cmp) fuel ((IntKind.wrap .i64 (a + 1)), data)).bind fun mpdata => (some mpdata))
def slices_stableCmpFunc_api_Item_L1 (data : (List Api_Item)) (n : Int) (cmp : (Api_Item → Api_Item → Option Int)) : (Int × Int × (List Api_Item)) → Option (Ctl (Int × (List Api_Item)) (Int × Int × (List Api_Item)))
 | (a11, b12, mpdata13) => (if (decide (b12 ≤ n)) then ((slices_insertionSortCmpFunc_api_Item mpdata13 a11 b12 cmp).bind fun y => ((chkl data.length y).bind fun () => (some (.go (b12, (IntKind.wrap .i64 (b12 + 20)), y))))) else (early (some (a11, mpdata13))))
def slices_stableCmpFunc_api_Item_L3 (n : Int) (blockSize45 : Int) : Unit → Option (Ctl Unit Unit)
 | () => (if (decide ((IntKind.wrap .i64 (2 * blockSize45)) ≤ n)) then none else (early (some ())))
def slices_stableCmpFunc_api_Item_L2 (n : Int) : Int → Option (Ctl Unit Int)
 | blockSize45 => (if (decide (blockSize45 < n)) then ((loopN (slices_stableCmpFunc_api_Item_L3 n blockSize45) fuel ()).bind fun () => (if (decide ((IntKind.wrap .i64 (0 + blockSize45)) < n)) then none else (some (.go (IntKind.wrap .i64 (blockSize45 * 2)))))) else (early (some ())))
def slices_stableCmpFunc_api_Item (data : (List Api_Item)) (n : Int) (cmp : (Api_Item → Api_Item → Option Int)) : Option (List Api_Item) :=
 ((loopN (slices_stableCmpFunc_api_Item_L1 data n cmp) fuel (0, 20, data)).bind fun (a, mpdata) => ((slices_insertionSortCmpFunc_api_Item mpdata a n cmp).bind fun y24 => ((chkl data.length y24).bind fun () => ((loopN (slices_stableCmpFunc_api_Item_L2 n) fuel 20).bind fun () => (some y24)))))
def slices_SortStableFunc_Lapi_Item_api_Item (x : (List Api_Item)) (cmp : (Api_Item → Api_Item → Option Int)) : Option (List Api_Item) :=
 ((slices_stableCmpFunc_api_Item x (x.length : Int) cmp).bind fun y => ((chkl x.length y).bind fun () => (some y)))
def cmp_isNaN_int (x : Int) : Option Bool :=
 (some (x != x))
def cmp_Compare_int (x : Int) (y : Int) : Option Int :=
 ((cmp_isNaN_int x).bind fun y1 => ((cmp_isNaN_int y).bind fun y2 => (if y1 then (if y2 then (some 0) else (some (-1))) else (if y2 then (some 1) else (if (decide (x < y)) then (some (-1)) else (if (decide (x > y)) then (some 1) else (some 0)))))))
def chain_Merge_1 (x : Api_Item) (y : Api_Item) : Option Int :=
 ((cmp_Compare_int x.Block y.Block).bind fun y7 => (some y7))
def slices_CompactFunc_Lapi_Item_api_Item_L2 (a1 : (Api_Item → Api_Item → Option Bool)) (o : Nat) (k19 : Nat) : (Int × Int × (List Api_Item)) → Option (Ctl (Int × (List Api_Item)) (Int × Int × (List Api_Item)))
 | (t537, t738, mpa039) => (if (decide (t738 < (k19 : Int))) then (((idxP mpa039 o k19 t738).bind fun x55 => ((idxP mpa039 o k19 (IntKind.wrap .i64 (t738 - 1))).bind fun x56 => ((a1 x55 x56).bind fun y58 => (if (!y58) then ((idx mpa039 t537).bind fun x61 => ((updL mpa039 t537 x55).bind fun m => (some ((IntKind.wrap .i64 (t537 + 1)), m)))) else (some (t537, mpa039)))))).bind fun (t547, mpa048) => (some (.go (t547, (IntKind.wrap .i64 (t738 + 1)), mpa048)))) else (early (some (t537, mpa039))))
def slices_CompactFunc_Lapi_Item_api_Item_L1 (a0 : (List Api_Item)) (a1 : (Api_Item → Api_Item → Option Bool)) : Int → Option (Ctl (Ctl (List Api_Item) Unit) Int)
 | t59 => (if (decide (t59 < (a0.length : Int))) then ((idx a0 t59).bind fun x => ((idx a0 (IntKind.wrap .i64 (t59 - 1))).bind fun x17 => ((a1 x x17).bind fun y => (if y then ((slcH a0.length t59 ((a0.length : Nat) : Int)).bind fun (o, k19) => ((loopN (slices_CompactFunc_Lapi_Item_api_Item_L2 a1 o k19) fuel (t59, 1, a0)).bind fun (t520, mpa0) => ((slcH a0.length t520 ((a0.length : Nat) : Int)).bind fun (o66, k67) => ((slcH a0.length 0 t520).bind fun (o73, k74) => (early (early (some ((fillL mpa0 o66 k67 (Api_Item.mk 0 ([] : (List Int)))).take k74)))))))) else (some (.go (IntKind.wrap .i64 (t59 + 1)))))))) else (early (some (.go ()))))
def slices_CompactFunc_Lapi_Item_api_Item (a0 : (List Api_Item)) (a1 : (Api_Item → Api_Item → Option Bool)) : Option (List Api_Item) :=
 (if (decide ((a0.length : Int) < 2)) then (some a0) else (kont (loopN (slices_CompactFunc_Lapi_Item_api_Item_L1 a0 a1) fuel 1) fun () => (some a0)))
def chain_Merge_2 (x : Api_Item) (y : Api_Item) : Option Bool :=
 (some (x.Block == y.Block))
def slices_Clone_Lapi_Item_api_Item (vs : (List Api_Item)) : Option (List Api_Item) :=
 ((app 32 ([] : (List Api_Item)) vs).bind fun m => (some m))
def slices_Clone_Lbyte_byte (vs : (List Int)) : Option (List Int) :=
 ((app 1 ([] : (List Int)) vs).bind fun m => (some m))
def chain_copied_L1 (y : (List Api_Item)) : (Int × (List Api_Item)) → Option (Ctl (List Api_Item) (Int × (List Api_Item)))
 | (t914, me15) => (if (decide (t914 < (y.length : Int))) then ((idx me15 t914).bind fun x => ((slices_Clone_Lbyte_byte x.Data).bind fun y21 => ((updL me15 t914 (Api_Item.mk x.Block y21)).bind fun m => (some (.go ((IntKind.wrap .i64 (t914 + 1)), m)))))) else (early (some me15)))
def chain_copied (l : (List Api_Item)) : Option (List Api_Item) :=
 ((slices_Clone_Lapi_Item_api_Item l).bind fun y => ((loopN (chain_copied_L1 y) fuel (0, y)).bind fun me => (some me)))
def chain_Merge (a : Api_Stream) (b : Api_Stream) : Option (Api_Stream × Int) :=
 (((stream_Right a).bind fun y => (if (!y) then (some true) else ((stream_Right b).bind fun y21 => (some (!y21))))).bind fun t7 => (if t7 then (some ((Api_Stream.mk 0 0 0 0 ([] : (List Api_Item))), 23)) else ((chain_Follows a b).bind fun y28 => (if (!y28) then (some ((Api_Stream.mk 0 0 0 0 ([] : (List Api_Item))), 38)) else ((slices_Concat_Lapi_Item_api_Item ([b.Items, a.Items] : (List (List Api_Item)))).bind fun y36 => ((slices_SortStableFunc_Lapi_Item_api_Item y36 (fun z0 z1 => chain_Merge_1 z0 z1)).bind fun y49 => ((chkl y36.length y49).bind fun () => ((slices_CompactFunc_Lapi_Item_api_Item y49 (fun z0 z1 => chain_Merge_2 z0 z1)).bind fun y58 => ((chain_copied y58).bind fun y72 => (some ((Api_Stream.mk a.Blocks a.Size a.From b.To y72), 0)))))))))))
def slices_IndexFunc_Lapi_Stream_api_Stream_L1 (vs : (List Api_Stream)) (f : (Api_Stream → Option Bool)) : Int → Option (Ctl (Ctl Int Unit) Int)
 | t85 => (if (decide (t85 < (vs.length : Int))) then ((idx vs t85).bind fun x => ((f x).bind fun y => (if y then (early (early (some t85))) else (some (.go (IntKind.wrap .i64 (t85 + 1))))))) else (early (some (.go ()))))
def slices_IndexFunc_Lapi_Stream_api_Stream (vs : (List Api_Stream)) (f : (Api_Stream → Option Bool)) : Option Int :=
 (kont (loopN (slices_IndexFunc_Lapi_Stream_api_Stream_L1 vs f) fuel 0) fun () => (some (-1)))
def slices_ContainsFunc_Lapi_Stream_api_Stream (vs : (List Api_Stream)) (f : (Api_Stream → Option Bool)) : Option Bool :=
 ((slices_IndexFunc_Lapi_Stream_api_Stream vs f).bind fun y => (some (decide (y ≥ 0))))
def chain_All_1 (vs : Api_Stream) : Option Bool :=
 ((stream_Right vs).bind fun y => (some (!y)))
def chain_full (vs : Api_Stream) : Option Bool :=
 (((stream_Right vs).bind fun y => (if y then (some (decide (vs.From < 0))) else (some false))).bind fun t2 => (some t2))
def chain_follow_R : Nat → (List Api_Stream) → Option Bool
 | 0, _ => none
 | nn + 1, l => ((if (decide ((l.length : Int) < 2)) then (some true) else ((idx l 0).bind fun x => ((idx l 1).bind fun x1 => ((chain_Follows x x1).bind fun y => (if y then ((slc l 1 (l.length : Int)).bind fun m => ((chain_follow_R nn m).bind fun y3 => (some y3))) else (some false)))))).bind fun t2 => (some t2))
def chain_follow (l : (List Api_Stream)) : Option Bool := chain_follow_R fuel l
def chain_Right (l : (List Api_Stream)) : Option Bool :=
 ((if ((l.length : Int) == 0) then (some true) else ((idx l 0).bind fun x => ((chain_full x).bind fun y => (some (!y))))).bind fun t12 => (if t12 then (some false) else ((if ((l.length : Int) == 1) then (some true) else ((chain_follow l).bind fun y5 => (some y5))).bind fun t2 => (some t2))))
def chain_All_L1 (m : (List Api_Stream)) : (Int × Api_Stream) → Option (Ctl Api_Stream (Int × Api_Stream))
 | (t2639, me1140) => (if (decide (t2639 < (m.length : Int))) then ((idx m t2639).bind fun x47 => ((chain_Merge me1140 x47).bind fun (y62, y63) => (some (.go ((IntKind.wrap .i64 (t2639 + 1)), y62))))) else (early (some me1140)))
def chain_All (l : (List Api_Stream)) : Option (Api_Stream × Int) :=
 ((slices_ContainsFunc_Lapi_Stream_api_Stream l (fun z0 => chain_All_1 z0)).bind fun y => (if y then (some ((Api_Stream.mk 0 0 0 0 ([] : (List Api_Item))), 23)) else ((chain_Right l).bind fun y4 => (if (!y4) then (some ((Api_Stream.mk 0 0 0 0 ([] : (List Api_Item))), 38)) else ((idx l 0).bind fun x => ((chain_copied x.Items).bind fun y20 => ((slc l 1 (l.length : Int)).bind fun m => ((loopN (chain_All_L1 m) fuel (0, (Api_Stream.mk x.Blocks x.Size x.From x.To y20))).bind fun me11 => (some (me11, 0))))))))))
def chain_Blocks_L1 (y1 : (List Api_Item)) : ((List (List Int)) × Int) → Option (Ctl (List (List Int)) ((List (List Int)) × Int))
 | (out18, t1320) => (if (decide (t1320 < (y1.length : Int))) then ((idx y1 t1320).bind fun x => ((app 24 out18 ([x.Data] : (List (List Int)))).bind fun m => (some (.go (m, (IntKind.wrap .i64 (t1320 + 1))))))) else (early (some out18)))
def chain_Blocks (vs : Api_Stream) : Option (List (List Int)) :=
 ((chain_full vs).bind fun y => (if (!y) then (some ([] : (List (List Int)))) else ((chain_copied vs.Items).bind fun y1 => ((loopN (chain_Blocks_L1 y1) fuel (([] : (List (List Int))), 0)).bind fun out => (some out)))))
def pack_Put_L2 : ((List Int) × Int) → Option (Ctl ((List Int) × Int) ((List Int) × Int))
 | (out36, n38) => (if (decide (n38 ≥ 128)) then ((app 1 out36 ([(Go.bits .or .u8 (IntKind.wrap .u8 n38) 128)] : (List Int))).bind fun m => (some (.go (m, (shrI n38 7))))) else (early (some (out36, n38))))
def pack_Put_L1 (l : (List Int)) : ((List Int) × Int) → Option (Ctl (List Int) ((List Int) × Int))
 | (out9, t811) => (if (decide (t811 < (l.length : Int))) then ((idx l t811).bind fun x => ((loopN (pack_Put_L2) fuel (out9, x)).bind fun (out17, n) => ((app 1 out17 ([(IntKind.wrap .u8 n)] : (List Int))).bind fun m50 => (some (.go (m50, (IntKind.wrap .i64 (t811 + 1)))))))) else (early (some out9)))
def pack_Put (l : (List Int)) : Option (List Int) :=
 ((loopN (pack_Put_L1 l) fuel (([] : (List Int)), 0)).bind fun out => (some out))
def chain_Decode_L1 (l : (List (List Int))) : Unit → Option (Ctl Unit Unit)
 | () => (if (decide (0 < (l.length : Int))) then none else (early (some ())))
def chain_Decode (l : (List (List Int))) : Option ((List Api_Stream) × Int × Int) :=
 ((loopN (chain_Decode_L1 l) fuel ()).bind fun () => (if (0 == 0) then (some (([] : (List Api_Stream)), 0, 38)) else none))
def mementoref13_SameItems_L1 (a : (List Api_Item)) (b : (List Api_Item)) : Int → Option (Ctl (Ctl Bool Unit) Int)
 | i5 => (if (decide (i5 < (a.length : Int))) then (((idx a i5).bind fun x => ((idx b i5).bind fun x14 => (if (x.Block != x14.Block) then (some true) else (some ((strOf x.Data) != (strOf x14.Data)))))).bind fun t42 => (if t42 then (early (early (some false))) else (some (.go (IntKind.wrap .i64 (i5 + 1)))))) else (early (some (.go ()))))
def mementoref13_SameItems (a : (List Api_Item)) (b : (List Api_Item)) : Option Bool :=
 (if ((a.length : Int) != (b.length : Int)) then (some false) else (kont (loopN (mementoref13_SameItems_L1 a b) fuel 0) fun () => (some true)))
def mementohelp_Streams (a : Api_Stream) (b : Api_Stream) : Option Bool :=
 ((if (a.Blocks == b.Blocks) then (if (a.Size == b.Size) then (if (a.From == b.From) then (if (a.To == b.To) then ((mementoref13_SameItems a.Items b.Items).bind fun y => (some y)) else (some false)) else (some false)) else (some false)) else (some false)).bind fun t4 => (some t4))
def mementolaw22_known : Option Bool :=
 ((chain_Merge (Api_Stream.mk 2 1 (-1) 1 ([(Api_Item.mk 0 ([120] : (List Int))), (Api_Item.mk 1 ([121] : (List Int)))] : (List Api_Item))) (Api_Stream.mk 2 1 1 2 ([(Api_Item.mk 1 ([122] : (List Int)))] : (List Api_Item)))).bind fun (y, y40) => ((chain_Merge (Api_Stream.mk 2 1 1 2 ([(Api_Item.mk 1 ([122] : (List Int)))] : (List Api_Item))) (Api_Stream.mk 2 1 (-1) 1 ([(Api_Item.mk 0 ([120] : (List Int))), (Api_Item.mk 1 ([121] : (List Int)))] : (List Api_Item)))).bind fun (y55, y56) => ((chain_All ([(Api_Stream.mk 2 1 (-1) 1 ([(Api_Item.mk 0 ([120] : (List Int))), (Api_Item.mk 1 ([121] : (List Int)))] : (List Api_Item))), (Api_Stream.mk 2 1 1 2 ([(Api_Item.mk 1 ([122] : (List Int)))] : (List Api_Item)))] : (List Api_Stream))).bind fun (y75, y76) => ((chain_Blocks y75).bind fun y98 => ((chain_Decode ([] : (List (List Int)))).bind fun (y100, y101, y102) => ((if (y40 == 0) then ((mementohelp_Streams y y75).bind fun y111 => (if y111 then (if (y56 == 38) then (if (y76 == 0) then (if ((y98.length : Int) == 2) then ((idx y98 1).bind fun x => (if ((strOf x) == ([122] : List UInt8)) then ((chain_Right ([(Api_Stream.mk 2 1 (-1) 1 ([(Api_Item.mk 0 ([120] : (List Int))), (Api_Item.mk 1 ([121] : (List Int)))] : (List Api_Item))), (Api_Stream.mk 2 1 1 2 ([(Api_Item.mk 1 ([122] : (List Int)))] : (List Api_Item)))] : (List Api_Stream))).bind fun y118 => (if y118 then ((chain_Right ([(Api_Stream.mk 2 1 1 2 ([(Api_Item.mk 1 ([122] : (List Int)))] : (List Api_Item)))] : (List Api_Stream))).bind fun y121 => (if (!y121) then ((chain_Follows (Api_Stream.mk 2 1 (-1) 1 ([(Api_Item.mk 0 ([120] : (List Int))), (Api_Item.mk 1 ([121] : (List Int)))] : (List Api_Item))) (Api_Stream.mk 2 1 1 2 ([(Api_Item.mk 1 ([122] : (List Int)))] : (List Api_Item)))).bind fun y124 => (if y124 then (if (y101 == 0) then (some (y102 == 38)) else (some false)) else (some false))) else (some false))) else (some false))) else (some false))) else (some false)) else (some false)) else (some false)) else (some false))) else (some false)).bind fun t0 => (some t0)))))))
def mementoref16_Machine_find_L1 (m : Mementoref16_Machine) (id : Int) : Int → Option (Ctl (Ctl Int Unit) Int)
 | i7 => (if (decide (i7 < (m.L.length : Int))) then ((idx m.L i7).bind fun x => (if (x.Id == id) then (early (early (some i7))) else (some (.go (IntKind.wrap .i64 (i7 + 1)))))) else (early (some (.go ()))))
def mementoref16_Machine_find (m : Mementoref16_Machine) (id : Int) : Option Int :=
 (kont (loopN (mementoref16_Machine_find_L1 m id) fuel 0) fun () => (some (-1)))
def mementoref16_Machine_Volume (m : Mementoref16_Machine) (id : Int) : Option (Api_Volume × Bool) :=
 ((mementoref16_Machine_find m id).bind fun y => (if (decide (y < 0)) then (some ((Api_Volume.mk 0 0 0 0 ([] : (List Int)) 0 0 false 0 ([] : (List Int)) ([] : (List Api_Write))), false)) else ((idx m.L y).bind fun x => (some (x, true)))))
def mementoref16_Chunks (blocks : Int) (per : Int) : Option Int :=
 ((quoI .i64 (IntKind.wrap .i64 ((IntKind.wrap .i64 (blocks + per)) - 1)) per).bind fun x => (some x))
def mementoseat_Create_L1 (blocks : Int) (per : Int) (x : Int) : (Int × (List Int)) → Option (Ctl (List Int) (Int × (List Int)))
 | (i33, me2_Place34) => ((mementoref16_Chunks (IntKind.wrap .i64 ((IntKind.wrap .i64 (Int.tmod blocks 9)) + 1)) (IntKind.wrap .i64 (x + 1))).bind fun y => (if (decide (i33 < y)) then ((app 8 me2_Place34 ([(IntKind.wrap .i64 (1 + (Int.tmod (IntKind.wrap .i64 (i33 + (IntKind.wrap .i64 per))) 2)))] : (List Int))).bind fun m => (some (.go ((IntKind.wrap .i64 (i33 + 1)), m)))) else (early (some me2_Place34))))
def mementoseat_Create (vol : Int) (blocks : Int) (size : Int) (per : Int) (total : Int) : Option Api_VolCmd :=
 ((remI (IntKind.wrap .i64 per) (IntKind.wrap .i64 ((IntKind.wrap .i64 (Int.tmod blocks 9)) + 1))).bind fun x => ((loopN (mementoseat_Create_L1 blocks per x) fuel (0, ([] : (List Int)))).bind fun me2_Place => (some (Api_VolCmd.mk 1 (IntKind.wrap .i64 (Int.tmod vol 3)) (IntKind.wrap .i64 ((IntKind.wrap .i64 (Int.tmod blocks 9)) + 1)) (IntKind.wrap .i64 ((IntKind.wrap .i64 (Int.tmod size 3)) + 1)) (IntKind.wrap .i64 (x + 1)) me2_Place total 0 0 ([] : (List Api_Item))))))
def mementoseat_Data_L1 (size : Int) (k : Int) : ((List Int) × Int) → Option (Ctl (List Int) ((List Int) × Int))
 | (b10, i12) => (if (decide (i12 < size)) then ((app 1 b10 ([(IntKind.wrap .u8 (k + (IntKind.wrap .u8 ((IntKind.wrap .u8 i12) * 7))))] : (List Int))).bind fun m => (some (.go (m, (IntKind.wrap .i64 (i12 + 1)))))) else (early (some b10)))
def mementoseat_Data (size : Int) (k : Int) : Option (List Int) :=
 ((loopN (mementoseat_Data_L1 size k) fuel (([] : (List Int)), 0)).bind fun b => (some b))
def mementoseat_Items_L2 (out9 : (List Api_Item)) (x29 : Int) : (Bool × Int) → Option (Ctl Bool (Bool × Int))
 | (there45, k46) => (if (decide (k46 < (out9.length : Int))) then ((if there45 then (some true) else ((idx out9 k46).bind fun x61 => (some (x61.Block == x29)))).bind fun there54 => (some (.go (there54, (IntKind.wrap .i64 (k46 + 1)))))) else (early (some there45)))
def mementoseat_Items_L1 (blocks : Int) (size : Int) (l : (List Int)) : ((List Api_Item) × Int) → Option (Ctl (List Api_Item) ((List Api_Item) × Int))
 | (out9, i11) => ((if (decide (i11 < (l.length : Int))) then (some (decide ((out9.length : Int) < 8))) else (some false)).bind fun t20 => (if t20 then (((idx l i11).bind fun x => ((remI (IntKind.wrap .i64 x) (maxI blocks 1)).bind fun x29 => ((loopN (mementoseat_Items_L2 out9 x29) fuel (false, 0)).bind fun there => (if (!there) then ((mementoseat_Data size x).bind fun y => ((app 32 out9 ([(Api_Item.mk x29 y)] : (List Api_Item))).bind fun m => (some m))) else (some out9))))).bind fun out22 => (some (.go (out22, (IntKind.wrap .i64 (i11 + 1)))))) else (early (some out9))))
def mementoseat_Items (blocks : Int) (size : Int) (l : (List Int)) : Option (List Api_Item) :=
 ((loopN (mementoseat_Items_L1 blocks size l) fuel (([] : (List Api_Item)), 0)).bind fun out => (some out))
def mementoref16_Len (v : Api_Volume) : Option Int :=
 (some (v.Writes.length : Int))
def mementoseat_Cmd (a0 : Api_Volume) (a1 : Bool) (a2 : Int) (a3 : Int) (a4 : Int) (a5 : Int) : Option Api_VolCmd :=
 (if (!a1) then ((if ((Int.tmod a5 4) == 0) then (some (IntKind.wrap .i64 ((IntKind.wrap .i64 (Int.tmod (IntKind.wrap .u8 (Int.tdiv a5 4)) 3)) + 1))) else (some 0)).bind fun t13 => ((mementoseat_Create (IntKind.wrap .u8 a0.Id) a3 a4 a5 t13).bind fun y => (some y))) else (((if ((Int.tmod a2 10) == 0) then (some ((Int.tmod a2 10) == 0)) else (if ((Int.tmod a2 10) == 1) then (some ((Int.tmod a2 10) == 1)) else (if ((Int.tmod a2 10) == 2) then (some ((Int.tmod a2 10) == 2)) else (some ((Int.tmod a2 10) == 3))))).bind fun t39 => (if t39 then ((mementoseat_Items a0.Blocks a0.Size ([a3, a4, a5] : (List Int))).bind fun y46 => (some (2, 0, 0, y46))) else (if ((Int.tmod a2 10) == 4) then ((mementoref16_Len a0).bind fun y59 => ((remI (IntKind.wrap .i64 a3) (IntKind.wrap .i64 (y59 + 2))).bind fun x => (some (3, x, 0, ([] : (List Api_Item)))))) else (if ((Int.tmod a2 10) == 5) then ((mementoref16_Len a0).bind fun y72 => ((remI (IntKind.wrap .i64 a3) (IntKind.wrap .i64 (y72 + 2))).bind fun x74 => (some (4, x74, 0, ([] : (List Api_Item)))))) else (if ((Int.tmod a2 10) == 6) then ((mementoref16_Len a0).bind fun y86 => ((remI (IntKind.wrap .i64 a3) (IntKind.wrap .i64 (y86 + 2))).bind fun x88 => (some (5, x88, 0, ([] : (List Api_Item)))))) else (if ((Int.tmod a2 10) == 7) then (some (8, 0, 0, ([] : (List Api_Item)))) else (if ((Int.tmod a2 10) == 8) then ((mementoseat_Items a0.Blocks a0.Size ([a3, a4] : (List Int))).bind fun y106 => (some (6, 0, (maxI (IntKind.wrap .i64 (a0.Next - (IntKind.wrap .i64 (Int.tdiv (IntKind.wrap .i64 (Int.tmod a5 5)) 4)))) 0), y106))) else (some (7, 0, 0, ([] : (List Api_Item))))))))))).bind fun (me17_Kind, me17_At, me17_Index, me17_Items) => ((if a0.Hidden then (some (decide ((Int.tmod a2 10) < 5))) else (some false)).bind fun t115 => ((if t115 then ((mementoseat_Items a0.Blocks a0.Size ([a3, a4, a5] : (List Int))).bind fun y146 => (some (6, 0, a0.Next, y146))) else (some (me17_Kind, me17_At, me17_Index, me17_Items))).bind fun (me17_Kind134, me17_At135, me17_Index136, me17_Items137) => (some (Api_VolCmd.mk me17_Kind134 a0.Id 0 0 0 ([] : (List Int)) 0 me17_At135 me17_Index136 me17_Items137))))))
def mementoref16_within (n : Int) : Option Bool :=
 ((if (decide (n ≥ 0)) then (some (decide (n ≤ 1099511627776))) else (some false)).bind fun t2 => (some t2))
def mementoref16_CmdRight_L1 (a0 : Api_VolCmd) : Int → Option (Ctl (Ctl Bool Unit) Int)
 | t334 => (if (decide (t334 < (a0.Place.length : Int))) then (((idx a0.Place t334).bind fun x => (if (decide (x < 0)) then (some true) else (some (decide (x ≥ 8))))).bind fun t91 => (if t91 then (early (early (some false))) else (some (.go (IntKind.wrap .i64 (t334 + 1)))))) else (early (some (.go ()))))
def mementoref16_CmdRight_L2 (a0 : Api_VolCmd) : Int → Option (Ctl (Ctl Bool Unit) Int)
 | t458 => (if (decide (t458 < (a0.Items.length : Int))) then (((idx a0.Items t458).bind fun x69 => (if (decide (x69.Block < 0)) then (some true) else (if (decide (x69.Block ≥ 256)) then (some true) else (some (decide ((x69.Data.length : Int) > 32)))))).bind fun t124 => (if t124 then (early (early (some false))) else (some (.go (IntKind.wrap .i64 (t458 + 1)))))) else (early (some (.go ()))))
def mementoref16_CmdRight (a0 : Api_VolCmd) : Option Bool :=
 ((if (decide (a0.Kind < 1)) then (some true) else (if (decide (a0.Kind > 8)) then (some true) else (if (decide (a0.Vol < 0)) then (some true) else (if (decide (a0.Vol ≥ 8)) then (some true) else ((mementoref16_within a0.Blocks).bind fun y => (if (!y) then (some true) else ((mementoref16_within a0.Size).bind fun y8 => (if (!y8) then (some true) else ((mementoref16_within a0.Per).bind fun y11 => (if (!y11) then (some true) else ((mementoref16_within a0.Total).bind fun y14 => (if (!y14) then (some true) else ((mementoref16_within a0.Index).bind fun y17 => (if (!y17) then (some true) else ((mementoref16_within a0.At).bind fun y20 => (if (!y20) then (some true) else (if (decide ((a0.Place.length : Int) > 256)) then (some true) else (some (decide ((a0.Items.length : Int) > 8)))))))))))))))))))).bind fun t70 => (if t70 then (some false) else (kont (loopN (mementoref16_CmdRight_L1 a0) fuel 0) fun () => (kont (loopN (mementoref16_CmdRight_L2 a0) fuel 0) fun () => (some true)))))
def mementoref1_Put_L2 : ((List Int) × Int) → Option (Ctl ((List Int) × Int) ((List Int) × Int))
 | (b36, n38) => (if (decide (n38 ≥ 128)) then ((app 1 b36 ([(Go.bits .or .u8 (IntKind.wrap .u8 n38) 128)] : (List Int))).bind fun m => (some (.go (m, (shrI n38 7))))) else (early (some (b36, n38))))
def mementoref1_Put_L1 (l : (List Int)) : ((List Int) × Int) → Option (Ctl (List Int) ((List Int) × Int))
 | (b9, i11) => (if (decide (i11 < (l.length : Int))) then ((idx l i11).bind fun x => ((loopN (mementoref1_Put_L2) fuel (b9, x)).bind fun (b17, n) => ((app 1 b17 ([(IntKind.wrap .u8 n)] : (List Int))).bind fun m50 => (some (.go (m50, (IntKind.wrap .i64 (i11 + 1)))))))) else (early (some b9)))
def mementoref1_Put (l : (List Int)) : Option (List Int) :=
 ((loopN (mementoref1_Put_L1 l) fuel (([] : (List Int)), 0)).bind fun b => (some b))
def mementoref16_nums_L1 (l : (List Int)) : ((List Int) × Int) → Option (Ctl (List Int) ((List Int) × Int))
 | (b9, i11) => (if (decide (i11 < (l.length : Int))) then ((idx l i11).bind fun x => ((mementoref1_Put ([(IntKind.wrap .u64 x)] : (List Int))).bind fun y => ((app 1 b9 y).bind fun m => (some (.go (m, (IntKind.wrap .i64 (i11 + 1)))))))) else (early (some b9)))
def mementoref16_nums (l : (List Int)) : Option (List Int) :=
 ((loopN (mementoref16_nums_L1 l) fuel (([] : (List Int)), 0)).bind fun b => (some b))
def mementoref16_place_L1 (l : (List Int)) : ((List Int) × Int) → Option (Ctl (List Int) ((List Int) × Int))
 | (b15, i17) => (if (decide (i17 < (l.length : Int))) then ((idx l i17).bind fun x => ((mementoref16_nums ([x] : (List Int))).bind fun y23 => ((app 1 b15 y23).bind fun m => (some (.go (m, (IntKind.wrap .i64 (i17 + 1)))))))) else (early (some b15)))
def mementoref16_place (l : (List Int)) : Option (List Int) :=
 ((mementoref16_nums ([(l.length : Int)] : (List Int))).bind fun y => ((loopN (mementoref16_place_L1 l) fuel (y, 0)).bind fun b => (some b)))
def mementoref13_nums_L1 (l : (List Int)) : ((List Int) × Int) → Option (Ctl (List Int) ((List Int) × Int))
 | (b9, i11) => (if (decide (i11 < (l.length : Int))) then ((idx l i11).bind fun x => ((mementoref1_Put ([(IntKind.wrap .u64 x)] : (List Int))).bind fun y => ((app 1 b9 y).bind fun m => (some (.go (m, (IntKind.wrap .i64 (i11 + 1)))))))) else (early (some b9)))
def mementoref13_nums (l : (List Int)) : Option (List Int) :=
 ((loopN (mementoref13_nums_L1 l) fuel (([] : (List Int)), 0)).bind fun b => (some b))
def mementoref1_Lump (b : (List Int)) : Option (List Int) :=
 ((mementoref1_Put ([(IntKind.wrap .u64 (b.length : Int))] : (List Int))).bind fun y => ((app 1 y b).bind fun m => (some m)))
def mementoref13_PutItems_L1 (l : (List Api_Item)) : ((List Int) × Int) → Option (Ctl (List Int) ((List Int) × Int))
 | (b15, i17) => (if (decide (i17 < (l.length : Int))) then ((idx l i17).bind fun x => ((mementoref13_nums ([x.Block] : (List Int))).bind fun y23 => ((app 1 b15 y23).bind fun m => ((mementoref1_Lump x.Data).bind fun y30 => ((app 1 m y30).bind fun m32 => (some (.go (m32, (IntKind.wrap .i64 (i17 + 1)))))))))) else (early (some b15)))
def mementoref13_PutItems (l : (List Api_Item)) : Option (List Int) :=
 ((mementoref13_nums ([(l.length : Int)] : (List Int))).bind fun y => ((loopN (mementoref13_PutItems_L1 l) fuel (y, 0)).bind fun b => (some b)))
def mementoref16_PutCmd (vc : Api_VolCmd) : Option ((List Int) × Int) :=
 ((mementoref16_CmdRight vc).bind fun y => (if (!y) then (some (([] : (List Int)), 23)) else ((mementoref16_nums ([vc.Kind, vc.Vol, vc.Blocks, vc.Size, vc.Per, vc.Total, vc.At, vc.Index] : (List Int))).bind fun y1 => ((mementoref16_place vc.Place).bind fun y9 => ((app 1 y1 y9).bind fun m => ((mementoref13_PutItems vc.Items).bind fun y18 => ((app 1 m y18).bind fun m20 => (some (m20, 0)))))))))
def mementoref1_Reader_fail (vr : Mementoref1_Reader) (e : Int) : Option Mementoref1_Reader :=
 (some (Mementoref1_Reader.mk ([] : (List Int)) e))
def mementoref1_Reader_Num_L1 (a0 : Mementoref1_Reader) (a1 : Int) : (Int × Int) → Option (Ctl (Ctl (Int × Mementoref1_Reader) Unit) (Int × Int))
 | (t57, t68) => (if (decide (t68 < (a0.B.length : Int))) then ((idx a0.B t68).bind fun x => ((if (t68 == 9) then (some (decide (x > 1))) else (some false)).bind fun t34 => (if t34 then ((mementoref1_Reader_fail a0 20).bind fun y => (early (early (some (0, y))))) else ((cnt .u64 (IntKind.wrap .i64 (7 * t68))).bind fun n => (if (decide (x < 128)) then ((if (decide (t68 > 0)) then (some (x == 0)) else (some false)).bind fun t52 => (if t52 then ((mementoref1_Reader_fail a0 20).bind fun y30 => (early (early (some (0, y30))))) else (if (decide ((Go.bits .or .u64 t57 (shlI .u64 (IntKind.wrap .u64 (Go.bits .and .u8 x 127)) n)) > a1)) then ((mementoref1_Reader_fail a0 22).bind fun y36 => (early (early (some (0, y36))))) else ((slc a0.B (IntKind.wrap .i64 (t68 + 1)) (a0.B.length : Int)).bind fun m => (early (early (some ((Go.bits .or .u64 t57 (shlI .u64 (IntKind.wrap .u64 (Go.bits .and .u8 x 127)) n)), (Mementoref1_Reader.mk m a0.E))))))))) else (some (.go ((Go.bits .or .u64 t57 (shlI .u64 (IntKind.wrap .u64 (Go.bits .and .u8 x 127)) n)), (IntKind.wrap .i64 (t68 + 1)))))))))) else (early (some (.go ()))))
def mementoref1_Reader_Num (a0 : Mementoref1_Reader) (a1 : Int) : Option (Int × Mementoref1_Reader) :=
 (if (a0.E != 0) then (some (0, a0)) else (kont (loopN (mementoref1_Reader_Num_L1 a0 a1) fuel (0, 0)) fun () => ((mementoref1_Reader_fail a0 21).bind fun y44 => (some (0, y44)))))
def mementoref16_takePlace_L1 (y : Int) : ((List Int) × Int × Mementoref1_Reader) → Option (Ctl ((List Int) × Mementoref1_Reader) ((List Int) × Int × Mementoref1_Reader))
 | (l17, i19, mpvr20) => ((if (decide (i19 < y)) then (some (mpvr20.E == 0)) else (some false)).bind fun t17 => (if t17 then ((mementoref1_Reader_Num mpvr20 8).bind fun (y34, y35) => ((app 8 l17 ([(IntKind.wrap .i64 y34)] : (List Int))).bind fun m => (some (.go (m, (IntKind.wrap .u64 (i19 + 1)), y35))))) else (early (some (l17, mpvr20)))))
def mementoref16_takePlace (vr : Mementoref1_Reader) : Option ((List Int) × Mementoref1_Reader) :=
 ((mementoref1_Reader_Num vr 256).bind fun (y, y1) => ((loopN (mementoref16_takePlace_L1 y) fuel (([] : (List Int)), 0, y1)).bind fun (l, mpvr) => (some (l, mpvr))))
def mementoref1_Reader_Lump (vr : Mementoref1_Reader) (most : Int) : Option ((List Int) × Mementoref1_Reader) :=
 ((mementoref1_Reader_Num vr (IntKind.wrap .u64 (maxI most 0))).bind fun (y, y1) => (if (y1.E != 0) then (some (([] : (List Int)), y1)) else (if (decide (y > (IntKind.wrap .u64 (y1.B.length : Int)))) then ((mementoref1_Reader_fail y1 21).bind fun y3 => (some (([] : (List Int)), y3))) else ((slc y1.B 0 y).bind fun m => ((slc y1.B y (y1.B.length : Int)).bind fun m8 => (some (m, (Mementoref1_Reader.mk m8 y1.E))))))))
def mementoref13_TakeItems_L1 (y : Int) : ((List Api_Item) × Int × Mementoref1_Reader) → Option (Ctl ((List Api_Item) × Mementoref1_Reader) ((List Api_Item) × Int × Mementoref1_Reader))
 | (l17, i19, mpvr20) => ((if (decide (i19 < y)) then (some (mpvr20.E == 0)) else (some false)).bind fun t18 => (if t18 then ((mementoref1_Reader_Num mpvr20 256).bind fun (y34, y35) => ((mementoref1_Reader_Lump y35 32).bind fun (y41, y42) => ((app 1 ([] : (List Int)) y41).bind fun m => ((app 32 l17 ([(Api_Item.mk (IntKind.wrap .i64 y34) m)] : (List Api_Item))).bind fun m55 => (some (.go (m55, (IntKind.wrap .u64 (i19 + 1)), y42))))))) else (early (some (l17, mpvr20)))))
def mementoref13_TakeItems (vr : Mementoref1_Reader) : Option ((List Api_Item) × Mementoref1_Reader) :=
 ((mementoref1_Reader_Num vr 8).bind fun (y, y1) => ((loopN (mementoref13_TakeItems_L1 y) fuel (([] : (List Api_Item)), 0, y1)).bind fun (l, mpvr) => (some (l, mpvr))))
def mementoref16_ReadCmd (a0 : (List Int)) : Option (Api_VolCmd × Int) :=
 ((mementoref1_Reader_Num (Mementoref1_Reader.mk a0 0) 8).bind fun (y, y16) => ((mementoref1_Reader_Num y16 8).bind fun (y27, y28) => ((mementoref1_Reader_Num y28 1099511627776).bind fun (y40, y41) => ((mementoref1_Reader_Num y41 1099511627776).bind fun (y53, y54) => ((mementoref1_Reader_Num y54 1099511627776).bind fun (y66, y67) => ((mementoref1_Reader_Num y67 1099511627776).bind fun (y79, y80) => ((mementoref1_Reader_Num y80 1099511627776).bind fun (y92, y93) => ((mementoref1_Reader_Num y93 1099511627776).bind fun (y105, y106) => ((mementoref16_takePlace y106).bind fun (y118, y119) => ((mementoref13_TakeItems y119).bind fun (y131, y132) => ((mementoref16_PutCmd (Api_VolCmd.mk (IntKind.wrap .i64 y) (IntKind.wrap .i64 y27) (IntKind.wrap .i64 y40) (IntKind.wrap .i64 y53) (IntKind.wrap .i64 y66) y118 (IntKind.wrap .i64 y79) (IntKind.wrap .i64 y92) (IntKind.wrap .i64 y105) y131)).bind fun (y144, y145) => ((if (y132.E != 0) then (some true) else (if (y145 != 0) then (some true) else (some ((strOf y144) != (strOf a0))))).bind fun t69 => (if t69 then (some ((Api_VolCmd.mk 0 0 0 0 0 ([] : (List Int)) 0 0 0 ([] : (List Api_Item))), 20)) else (some ((Api_VolCmd.mk (IntKind.wrap .i64 y) (IntKind.wrap .i64 y27) (IntKind.wrap .i64 y40) (IntKind.wrap .i64 y53) (IntKind.wrap .i64 y66) y118 (IntKind.wrap .i64 y79) (IntKind.wrap .i64 y92) (IntKind.wrap .i64 y105) y131), 0)))))))))))))))
def mementoref16_shape_L1 (a0 : Api_VolCmd) : Int → Option (Ctl (Ctl Bool Unit) Int)
 | t323 => (if (decide (t323 < (a0.Place.length : Int))) then (((idx a0.Place t323).bind fun x => (if (decide (x < 1)) then (some true) else (some (decide (x ≥ 8))))).bind fun t85 => (if t85 then (early (early (some false))) else (some (.go (IntKind.wrap .i64 (t323 + 1)))))) else (early (some (.go ()))))
def mementoref16_shape (a0 : Api_VolCmd) : Option Bool :=
 ((if (decide (a0.Vol < 0)) then (some true) else (if (decide (a0.Vol ≥ 8)) then (some true) else (if (decide (a0.Blocks < 1)) then (some true) else (if (decide (a0.Blocks > 256)) then (some true) else (if (decide (a0.Size < 1)) then (some true) else (if (decide (a0.Size > 32)) then (some true) else (if (decide (a0.Per < 1)) then (some true) else (if (decide (a0.Per > a0.Blocks)) then (some true) else ((mementoref16_Chunks a0.Blocks a0.Per).bind fun y => (if ((a0.Place.length : Int) != y) then (some true) else (if (decide (a0.Total < 0)) then (some true) else (some (decide (a0.Total > 1099511627776)))))))))))))).bind fun t64 => (if t64 then (some false) else (kont (loopN (mementoref16_shape_L1 a0) fuel 0) fun () => (some true))))
def mementoref16_New (vc : Api_VolCmd) : Option (Api_Volume × Int) :=
 ((mementoref16_shape vc).bind fun y => (if (!y) then (some ((Api_Volume.mk 0 0 0 0 ([] : (List Int)) 0 0 false 0 ([] : (List Int)) ([] : (List Api_Write))), 23)) else ((app 8 ([] : (List Int)) vc.Place).bind fun m => (some ((Api_Volume.mk vc.Vol vc.Blocks vc.Size vc.Per m vc.Total 0 (decide (vc.Total > 0)) 0 ([] : (List Int)) ([] : (List Api_Write))), 0)))))
def mementoref13_ItemsRight_L2 (l : (List Api_Item)) (i8 : Int) : Int → Option (Ctl (Ctl (Ctl (Ctl Bool Unit) Int) Unit) Int)
 | k29 => (if (decide (k29 < i8)) then ((idx l k29).bind fun x35 => ((idx l i8).bind fun x36 => (if (x35.Block == x36.Block) then (early (early (early (early (some false))))) else (some (.go (IntKind.wrap .i64 (k29 + 1))))))) else (early (some (.go ()))))
def mementoref13_ItemsRight_L1 (blocks : Int) (size : Int) (l : (List Api_Item)) : Int → Option (Ctl (Ctl Bool Unit) Int)
 | i8 => (if (decide (i8 < (l.length : Int))) then (((idx l i8).bind fun x => (if (decide (x.Block < 0)) then (some true) else (if (decide (x.Block ≥ blocks)) then (some true) else (some ((x.Data.length : Int) != size))))).bind fun t47 => (if t47 then (early (early (some false))) else (kont (loopN (mementoref13_ItemsRight_L2 l i8) fuel 0) fun () => (some (.go (IntKind.wrap .i64 (i8 + 1))))))) else (early (some (.go ()))))
def mementoref13_ItemsRight (blocks : Int) (size : Int) (l : (List Api_Item)) : Option Bool :=
 ((if (decide ((l.length : Int) < 1)) then (some true) else (some (decide ((l.length : Int) > 8)))).bind fun t16 => (if t16 then (some false) else (kont (loopN (mementoref13_ItemsRight_L1 blocks size l) fuel 0) fun () => (some true))))
def mementoref16_own_L1 (l : (List Api_Item)) : ((List Api_Item) × Int) → Option (Ctl (List Api_Item) ((List Api_Item) × Int))
 | (out9, i11) => (if (decide (i11 < (l.length : Int))) then ((idx l i11).bind fun x => ((app 1 ([] : (List Int)) x.Data).bind fun m => ((app 32 out9 ([(Api_Item.mk x.Block m)] : (List Api_Item))).bind fun m17 => (some (.go (m17, (IntKind.wrap .i64 (i11 + 1)))))))) else (early (some out9)))
def mementoref16_own (l : (List Api_Item)) : Option (List Api_Item) :=
 ((loopN (mementoref16_own_L1 l) fuel (([] : (List Api_Item)), 0)).bind fun out => (some out))
def mementoref16_write (v : Api_Volume) (l : (List Api_Item)) : Option Api_Volume :=
 ((app 32 ([] : (List Api_Write)) v.Writes).bind fun m => ((mementoref16_Len v).bind fun y => ((mementoref16_own l).bind fun y16 => ((app 32 m ([(Api_Write.mk (IntKind.wrap .i64 (y + 1)) y16)] : (List Api_Write))).bind fun m18 => (some (Api_Volume.mk v.Id v.Blocks v.Size v.Per v.Place v.Total v.Next v.Hidden v.Floor v.Pins m18))))))
def mementoref16_Low_L1 (v : Api_Volume) : (Int × Int) → Option (Ctl Int (Int × Int))
 | (n11, i12) => (if (decide (i12 < (v.Pins.length : Int))) then ((idx v.Pins i12).bind fun x => (some (.go ((minI n11 x), (IntKind.wrap .i64 (i12 + 1)))))) else (early (some n11)))
def mementoref16_Low (v : Api_Volume) : Option Int :=
 ((mementoref16_Len v).bind fun y => ((loopN (mementoref16_Low_L1 v) fuel (y, 0)).bind fun n => (some n)))
def mementoref16_done_L1 (a0 : Api_Volume) (a1 : Api_VolCmd) : Int → Option (Ctl Int Int)
 | t6109 => ((if (decide (t6109 < (a0.Pins.length : Int))) then ((idx a0.Pins t6109).bind fun x => (some (decide (x ≤ a1.At)))) else (some false)).bind fun t81 => (if t81 then (some (.go (IntKind.wrap .i64 (t6109 + 1)))) else (early (some t6109))))
def mementoref16_done_L2 (a0 : Api_Volume) (a1 : Api_VolCmd) : Int → Option (Ctl (Ctl (Ctl (Api_Volume × Int) Api_Volume) Unit) Int)
 | t7185 => (if (decide (t7185 < (a0.Pins.length : Int))) then ((idx a0.Pins t7185).bind fun x194 => (if (x194 == a1.At) then ((slc a0.Pins 0 t7185).bind fun m196 => ((app 8 ([] : (List Int)) m196).bind fun m197 => ((slc a0.Pins (IntKind.wrap .i64 (t7185 + 1)) (a0.Pins.length : Int)).bind fun m209 => ((app 8 m197 m209).bind fun m210 => (early (early (early (some ((Api_Volume.mk a0.Id a0.Blocks a0.Size a0.Per a0.Place a0.Total a0.Next a0.Hidden a0.Floor m210 a0.Writes), 0))))))))) else (some (.go (IntKind.wrap .i64 (t7185 + 1)))))) else (early (some (.go ()))))
def mementoref16_done (a0 : Api_Volume) (a1 : Api_VolCmd) : Option (Api_Volume × Int) :=
 (kont ((if (a1.Kind == 2) then (some (a1.Kind == 2)) else (if (a1.Kind == 3) then (some (a1.Kind == 3)) else (if (a1.Kind == 4) then (some (a1.Kind == 4)) else (some (a1.Kind == 5))))).bind fun t10 => (if t10 then (if a0.Hidden then (early (some (a0, 28))) else (some (.go ()))) else (some (.go ())))) fun () => (kont (if (a1.Kind == 2) then ((mementoref13_ItemsRight a0.Blocks a0.Size a1.Items).bind fun y => (if (!y) then (early (some (a0, 23))) else ((mementoref16_write a0 a1.Items).bind fun y50 => (early (some (y50, 0)))))) else (if (a1.Kind == 3) then (if (decide (a1.At < a0.Floor)) then (early (some (a0, 30))) else ((mementoref16_Low a0).bind fun y64 => (if (decide (a1.At > y64)) then (early (some (a0, 31))) else (some (.go (Api_Volume.mk a0.Id a0.Blocks a0.Size a0.Per a0.Place a0.Total a0.Next a0.Hidden a1.At a0.Pins a0.Writes)))))) else (if (a1.Kind == 4) then (if (decide (a1.At < a0.Floor)) then (early (some (a0, 30))) else ((mementoref16_Len a0).bind fun y84 => (if (decide (a1.At > y84)) then (early (some (a0, 31))) else ((loopN (mementoref16_done_L1 a0 a1) fuel 0).bind fun t6 => ((slc a0.Pins 0 t6).bind fun m => ((app 8 ([] : (List Int)) m).bind fun m124 => ((app 8 m124 ([a1.At] : (List Int))).bind fun m136 => ((slc a0.Pins t6 (a0.Pins.length : Int)).bind fun m148 => ((app 8 m136 m148).bind fun m149 => (some (.go (Api_Volume.mk a0.Id a0.Blocks a0.Size a0.Per a0.Place a0.Total a0.Next a0.Hidden a0.Floor m149 a0.Writes)))))))))))) else (if (a1.Kind == 5) then (kont (loopN (mementoref16_done_L2 a0 a1) fuel 0) fun () => (early (some (a0, 28)))) else (if (a1.Kind == 6) then (if (!a0.Hidden) then (early (some (a0, 33))) else ((if (decide (a1.Index ≥ 0)) then (some (decide (a1.Index < a0.Next))) else (some false)).bind fun t145 => (if t145 then (early (some (a0, 0))) else ((if (a1.Index != a0.Next) then (some true) else (some (a0.Next == a0.Total))).bind fun t158 => (if t158 then (early (some (a0, 33))) else ((mementoref13_ItemsRight a0.Blocks a0.Size a1.Items).bind fun y272 => (if (!y272) then (early (some (a0, 23))) else ((mementoref16_write a0 a1.Items).bind fun y280 => (some (.go (Api_Volume.mk y280.Id y280.Blocks y280.Size y280.Per y280.Place y280.Total (IntKind.wrap .i64 (y280.Next + 1)) y280.Hidden y280.Floor y280.Pins y280.Writes))))))))))) else (if (a1.Kind == 7) then ((if (!a0.Hidden) then (some true) else (some (a0.Next != a0.Total))).bind fun t188 => (if t188 then (early (some (a0, 33))) else ((mementoref16_Len a0).bind fun y306 => (some (.go (Api_Volume.mk a0.Id a0.Blocks a0.Size a0.Per a0.Place a0.Total a0.Next false y306 a0.Pins a0.Writes)))))) else (if (a1.Kind == 8) then (some (.go a0)) else (early (some (a0, 23)))))))))) fun me => (some (me, 0))))
def mementoref16_Do (v : Api_Volume) (vc : Api_VolCmd) : Option (Api_Volume × Api_Reply) :=
 ((mementoref16_done v vc).bind fun (y, y27) => (if (y27 != 0) then (some (v, (Api_Reply.mk y27 0 0 0 ([] : (List Int))))) else ((mementoref16_Len y).bind fun y62 => (some (y, (Api_Reply.mk 0 y62 y.Floor y.Next ([] : (List Int))))))))
def mementoref16_Machine_Apply_L1 (y : Api_VolCmd) (m : (List Api_Volume)) : Int → Option (Ctl Int Int)
 | t799 => ((if (decide (t799 < (m.length : Int))) then ((idx m t799).bind fun x => (some (decide (x.Id < y.Vol)))) else (some false)).bind fun t58 => (if t58 then (some (.go (IntKind.wrap .i64 (t799 + 1)))) else (early (some t799))))
def mementoref16_Machine_Apply (a0 : Mementoref16_Machine) (a1 : (List Int)) : Option (Api_Reply × Mementoref16_Machine) :=
 ((mementoref16_ReadCmd a1).bind fun (y, y2) => (if (y2 != 0) then (some ((Api_Reply.mk 20 0 0 0 ([] : (List Int))), a0)) else ((mementoref16_Machine_find a0 y.Vol).bind fun y22 => ((app 136 ([] : (List Api_Volume)) a0.L).bind fun m => (if (y.Kind == 1) then (if (decide (y22 ≥ 0)) then (some ((Api_Reply.mk 29 0 0 0 ([] : (List Int))), a0)) else ((mementoref16_New y).bind fun (y43, y44) => (if (y44 != 0) then (some ((Api_Reply.mk y44 0 0 0 ([] : (List Int))), a0)) else ((loopN (mementoref16_Machine_Apply_L1 y m) fuel 0).bind fun t7 => ((slc m 0 t7).bind fun m125 => ((app 136 ([] : (List Api_Volume)) m125).bind fun m126 => ((app 136 m126 ([y43] : (List Api_Volume))).bind fun m140 => ((slc m t7 (m.length : Int)).bind fun m154 => ((app 136 m140 m154).bind fun m155 => (some ((Api_Reply.mk 0 0 0 0 ([] : (List Int))), (Mementoref16_Machine.mk m155)))))))))))) else (if (decide (y22 < 0)) then (some ((Api_Reply.mk 28 0 0 0 ([] : (List Int))), a0)) else ((idx m y22).bind fun x197 => ((mementoref16_Do x197 y).bind fun (y198, y199) => ((updL m y22 y198).bind fun m245 => (some (y199, (Mementoref16_Machine.mk m245))))))))))))
def mementoseat_Volume_L1 (a0 : (List Int)) : (Int × Mementoref16_Machine) → Option (Ctl Mementoref16_Machine (Int × Mementoref16_Machine))
 | (t420, me221) => (if (decide ((IntKind.wrap .i64 (t420 + 3)) < (a0.length : Int))) then ((mementoref16_Machine_Volume me221 0).bind fun (y, y27) => ((idx a0 t420).bind fun x => ((idx a0 (IntKind.wrap .i64 (t420 + 1))).bind fun x42 => ((idx a0 (IntKind.wrap .i64 (t420 + 2))).bind fun x43 => ((idx a0 (IntKind.wrap .i64 (t420 + 3))).bind fun x44 => ((mementoseat_Cmd y y27 x x42 x43 x44).bind fun y45 => ((mementoref16_PutCmd y45).bind fun (y47, y48) => ((mementoref16_Machine_Apply me221 y47).bind fun (y50, y51) => (some (.go ((IntKind.wrap .i64 (t420 + 4)), y51))))))))))) else (early (some me221)))
def mementoseat_Volume (a0 : (List Int)) : Option Api_Volume :=
 ((loopN (mementoseat_Volume_L1 a0) fuel (0, (Mementoref16_Machine.mk ([] : (List Api_Volume))))).bind fun me2 => (if ((me2.L.length : Int) == 0) then ((mementoseat_Create 0 3 1 1 0).bind fun y59 => ((mementoref16_New y59).bind fun (y61, y62) => (some y61))) else ((idx me2.L 0).bind fun x83 => (some x83))))
def mementoref16_State_L1 (v : Api_Volume) : ((List (List Int)) × Int) → Option (Ctl (List (List Int)) ((List (List Int)) × Int))
 | (out29, i31) => (if (decide (i31 < v.Blocks)) then ((mks 1 0 v.Size).bind fun m => ((app 24 out29 ([m] : (List (List Int)))).bind fun m41 => (some (.go (m41, (IntKind.wrap .i64 (i31 + 1))))))) else (early (some out29)))
def mementoref16_State_L3 (x : Api_Write) : (Int × (List (List Int))) → Option (Ctl (List (List Int)) (Int × (List (List Int))))
 | (i116, mgout117) => (if (decide (i116 < (x.Items.length : Int))) then ((idx x.Items i116).bind fun x127 => ((idx mgout117 x127.Block).bind fun x128 => ((updL mgout117 x127.Block x127.Data).bind fun m129 => (some (.go ((IntKind.wrap .i64 (i116 + 1)), m129)))))) else (early (some mgout117)))
def mementoref16_State_L2 (v : Api_Volume) (t : Int) : (Int × (List (List Int))) → Option (Ctl (List (List Int)) (Int × (List (List Int))))
 | (vs70, mgout71) => (if (decide (vs70 < t)) then ((idx v.Writes vs70).bind fun x => ((loopN (mementoref16_State_L3 x) fuel (0, mgout71)).bind fun mgout94 => (some (.go ((IntKind.wrap .i64 (vs70 + 1)), mgout94))))) else (early (some mgout71)))
def mementoref16_State (v : Api_Volume) (t : Int) : Option ((List (List Int)) × Int) :=
 (if (decide (t < v.Floor)) then (some (([] : (List (List Int))), 30)) else ((mementoref16_Len v).bind fun y => (if (decide (t > y)) then (some (([] : (List (List Int))), 31)) else ((loopN (mementoref16_State_L1 v) fuel (([] : (List (List Int))), 0)).bind fun out => ((loopN (mementoref16_State_L2 v t) fuel (0, out)).bind fun mgout => (some (mgout, 0)))))))
def mementolaw22_streams_L4 (t1497 : Int) (x173 : Api_Write) : (Bool × Int) → Option (Ctl Bool (Bool × Int))
 | (t15207, t18208) => (if (decide (t18208 < (x173.Items.length : Int))) then ((if t15207 then (some true) else ((idx x173.Items t18208).bind fun x234 => (some (x234.Block == t1497)))).bind fun t15222 => (some (.go (t15222, (IntKind.wrap .i64 (t18208 + 1)))))) else (early (some t15207)))
def mementolaw22_streams_L3 (y : Api_Volume) (t835 : Int) (x46 : Int) (t1497 : Int) : (Bool × Int) → Option (Ctl Bool (Bool × Int))
 | (t15158, t16159) => (if (decide (t16159 < (IntKind.wrap .i64 ((maxI t835 0) + x46)))) then ((idx y.Writes t16159).bind fun x173 => ((loopN (mementolaw22_streams_L4 t1497 x173) fuel (t15158, 0)).bind fun t15174 => (some (.go (t15174, (IntKind.wrap .i64 (t16159 + 1))))))) else (early (some t15158)))
def mementolaw22_streams_L2 (y : Api_Volume) (t835 : Int) (x46 : Int) (y64 : (List (List Int))) : (Int × (List Api_Item)) → Option (Ctl (List Api_Item) (Int × (List Api_Item)))
 | (t1497, me48_Items98) => (if (decide (t1497 < y.Blocks)) then (((loopN (mementolaw22_streams_L3 y t835 x46 t1497) fuel ((decide (t835 < 0)), (maxI t835 0))).bind fun t15 => (if t15 then ((idx y64 t1497).bind fun x236 => ((app 32 me48_Items98 ([(Api_Item.mk t1497 x236)] : (List Api_Item))).bind fun m => (some m))) else (some me48_Items98))).bind fun me48_Items113 => (some (.go ((IntKind.wrap .i64 (t1497 + 1)), me48_Items113)))) else (early (some me48_Items98)))
def mementolaw22_streams_L1 (a1 : (List Int)) (y : Api_Volume) : ((List Api_Stream) × Int × Int) → Option (Ctl (List Api_Stream) ((List Api_Stream) × Int × Int))
 | (t733, t835, t936) => (if (decide (t936 < (a1.length : Int))) then ((idx a1 t936).bind fun x => ((mementoref16_Len (Api_Volume.mk y.Id y.Blocks y.Size y.Per y.Place y.Total y.Next y.Hidden 0 y.Pins y.Writes)).bind fun y44 => ((remI (IntKind.wrap .i64 x) (IntKind.wrap .i64 ((IntKind.wrap .i64 (y44 - (maxI t835 0))) + 1))).bind fun x46 => ((mementoref16_State (Api_Volume.mk y.Id y.Blocks y.Size y.Per y.Place y.Total y.Next y.Hidden 0 y.Pins y.Writes) (IntKind.wrap .i64 ((maxI t835 0) + x46))).bind fun (y64, y65) => ((loopN (mementolaw22_streams_L2 y t835 x46 y64) fuel (0, ([] : (List Api_Item)))).bind fun me48_Items => ((app 56 t733 ([(Api_Stream.mk y.Blocks y.Size t835 (IntKind.wrap .i64 ((maxI t835 0) + x46)) me48_Items)] : (List Api_Stream))).bind fun m257 => (some (.go (m257, (IntKind.wrap .i64 ((maxI t835 0) + x46)), (IntKind.wrap .i64 (t936 + 1))))))))))) else (early (some t733)))
def mementolaw22_streams (a0 : (List Int)) (a1 : (List Int)) : Option ((List Api_Stream) × Api_Volume) :=
 ((mementoseat_Volume a0).bind fun y => ((loopN (mementolaw22_streams_L1 a1 y) fuel (([] : (List Api_Stream)), (-1), 0)).bind fun t7 => (some (t7, (Api_Volume.mk y.Id y.Blocks y.Size y.Per y.Place y.Total y.Next y.Hidden 0 y.Pins y.Writes)))))
def mementolaw22_ChainBreaks (a0 : (List Int)) (a1 : (List Int)) (a2 : Int) : Option Bool :=
 ((mementolaw22_known).bind fun y => (if (!y) then (some false) else ((if (decide ((a0.length : Int) > 80)) then (some true) else (if (decide ((a1.length : Int) > 8)) then (some true) else (some (decide ((a1.length : Int) < 2))))).bind fun t30 => (if t30 then (some true) else ((mementolaw22_streams a0 a1).bind fun (y3, y4) => ((remI (IntKind.wrap .i64 a2) (y3.length : Int)).bind fun x => ((slc y3 0 x).bind fun m => ((app 56 ([] : (List Api_Stream)) m).bind fun m11 => ((slc y3 (IntKind.wrap .i64 (x + 1)) (y3.length : Int)).bind fun m18 => ((app 56 m11 m18).bind fun m19 => ((chain_All m19).bind fun (y27, y28) => ((if (x == (IntKind.wrap .i64 ((y3.length : Int) - 1))) then (some true) else (if (decide (x > 0)) then ((idx y3 x).bind fun x51 => (some (x51.From == x51.To))) else (some false))).bind fun t13 => ((idx y3 0).bind fun x52 => ((app 56 ([] : (List Api_Stream)) y3).bind fun m53 => ((app 56 m53 ([x52] : (List Api_Stream))).bind fun m74 => ((chain_All m74).bind fun (y86, y87) => ((if ((y28 == 0) == t13) then (if (y87 == 38) then (if (y28 == 0) then (some true) else (some (y28 == 38))) else (some false)) else (some false)).bind fun t6 => (some t6))))))))))))))))))
end Go.Proofs.Ytgdbmgnfaefhoaa.Am
namespace Go.Proofs.Ytgdbmgnfaefhoaa.Am
open Go
set_option linter.unusedVariables false
set_option linter.unusedSimpArgs false
set_option linter.unnecessarySimpa false
set_option maxRecDepth 100000
set_option maxHeartbeats 4000000 in
theorem w_stream_Right (a0 : Api_Stream) (H : Mem) {r : Bool} (h : stream_Right a0 = some r) : ACalls Try.prog 47 [.ag (k_Api_Stream a0)] H (fun r' H' => r' = kB r ∧ H' = H) := by
 unfold stream_Right at h
 refine ACalls.done0 rfl ?_
 refine acalls_walk Try.func47 rfl cl47 (by simp [Try.ntmps47]) (fun hB => ?_)
 refine aw_reb (Reb.of (l := [(0, .ag (k_Api_Stream a0))]) (by simp [FrL, afr0])) ?_
 have hpre : H <+: H := List.prefix_refl _
 refine sr (by decide) ?_
 obtain ⟨M, hM⟩ := nM (H ++ [(.cells (k_Api_Stream a0))])
 obtain ⟨e, he⟩ := nE (H.length)
 refine OD (.pt e 0) M rfl (by rw [he]; exact o_box rfl hM) ?_
 have hp := eqP hM (pre_app hpre)
 have f := nwE hM he
 have lo := loE he hpre
 refine OR 1 rfl <| nt <| aw_seq ?_
 obtain ⟨t53, h, k⟩ := bs h
 refine aw_joinS (S := Bool) (G := Unit) t53 (fun s g => Frm.of [(1, .pt e 0), (53, kB s)]) (fun s g M => H <+: M ∧ M[e]? = some (.cells (k_Api_Stream a0))) ?_ ?_
 ·refine aw_region (by decide) <| OD _ M rfl (o_fieldAddrP (fo := 0) U24 rfl ti3 (sz _) rfl) <| OD _ M rfl (o_loadP ag3 ti3 rfl f rfl rf) <| OR 1 rfl ?_
  refine oT h rfl (o_move rf) (fun hg h => ?_) (fun hg h => ?_)
  ·refine OR 45 rfl <| OpsS_nil ?_
   obtain rfl := sI h
   exact thenQ_n ⟨(), M, ⟨hp, f⟩, flr rfl⟩
  ·refine OD _ M rfl (o_fieldAddrP (fo := 0) U24 rfl ti3 (sz _) rfl) <| OD _ M rfl (o_loadP ag3 ti3 rfl f rfl rf) <| OR 2 rfl ?_
   refine oT h rfl (o_move rf) (fun hg4 h => ?_) (fun hg4 h => ?_)
   ·refine OR 40 rfl <| OpsS_nil ?_
    obtain rfl := sI h
    exact thenQ_n ⟨(), M, ⟨hp, f⟩, flr rfl⟩
   ·refine OD _ M rfl (o_fieldAddrP (fo := 1) U24 rfl ti3 (sz _) rfl) <| OD _ M rfl (o_loadP ag3 ti3 rfl f rfl rf) <| OR 2 rfl ?_
    refine oT h rfl (o_move rf) (fun hg5 h => ?_) (fun hg5 h => ?_)
    ·refine OR 35 rfl <| OpsS_nil ?_
     obtain rfl := sI h
     exact thenQ_n ⟨(), M, ⟨hp, f⟩, flr rfl⟩
    ·refine OD _ M rfl (o_fieldAddrP (fo := 1) U24 rfl ti3 (sz _) rfl) <| OD _ M rfl (o_loadP ag3 ti3 rfl f rfl rf) <| OR 2 rfl ?_
     refine oT h rfl (o_move rf) (fun hg6 h => ?_) (fun hg6 h => ?_)
     ·refine OR 30 rfl <| OpsS_nil ?_
      obtain rfl := sI h
      exact thenQ_n ⟨(), M, ⟨hp, f⟩, flr rfl⟩
     ·refine OD _ M rfl (o_fieldAddrP (fo := 2) U24 rfl ti2 (sz _) rfl) <| OD _ M rfl (o_loadP ag2 ti2 rfl f rfl rf) <| OR 2 rfl ?_
      refine oT h rfl (o_move rf) (fun hg7 h => ?_) (fun hg7 h => ?_)
      ·refine OR 25 rfl <| OpsS_nil ?_
       obtain rfl := sI h
       exact thenQ_n ⟨(), M, ⟨hp, f⟩, flr rfl⟩
      ·refine OD _ M rfl (o_fieldAddrP (fo := 3) U24 rfl ti2 (sz _) rfl) <| OD _ M rfl (o_loadP ag2 ti2 rfl f rfl rf) <| OD _ M rfl (o_fieldAddrP (fo := 2) U24 rfl ti2 (sz _) rfl) <| OD _ M rfl (o_loadP ag2 ti2 rfl f rfl rf) <| OD (kI (maxI a0.From 0)) M rfl (o_max rfl rfl) <| OR 2 rfl ?_
       refine oT h rfl (o_move rf) (fun hg8 h => ?_) (fun hg8 h => ?_)
       ·refine OR 17 rfl <| OpsS_nil ?_
        obtain rfl := sI h
        exact thenQ_n ⟨(), M, ⟨hp, f⟩, flr rfl⟩
       ·refine OD _ M rfl (o_fieldAddrP (fo := 3) U24 rfl ti2 (sz _) rfl) <| OD _ M rfl (o_loadP ag2 ti2 rfl f rfl rf) <| OR 2 rfl ?_
        refine oT h rfl (o_move rf) (fun hg9 h => ?_) (fun hg9 h => ?_)
        ·refine OR 12 rfl <| OpsS_nil ?_
         obtain rfl := sI h
         exact thenQ_n ⟨(), M, ⟨hp, f⟩, flr rfl⟩
        ·refine OD _ M rfl (o_fieldAddrP (fo := 2) U24 rfl ti2 (sz _) rfl) <| OD _ M rfl (o_loadP ag2 ti2 rfl f rfl rf) <| OR 1 rfl ?_
         refine oT h rfl (o_move rf) (fun hg10 h => ?_) (fun hg10 h => ?_)
         ·refine OD _ M rfl (o_fieldAddrP (fo := 4) U24 rfl ti22 (sz _) rfl) <| OD _ M rfl (o_loadP ag22 ti22 rfl f rfl rf) <| OD (kI (a0.Items.length : Int)) M rfl (o_lenL U22 rfl) <| OD _ M rfl (o_fieldAddrP (fo := 0) U24 rfl ti3 (sz _) rfl) <| OD _ M rfl (o_loadP ag3 ti3 rfl f rfl rf) <| OR 3 rfl <| OpsS_nil ?_
          obtain rfl := sI h
          exact thenQ_n ⟨(), M, ⟨hp, f⟩, flr rfl⟩
         ·refine OR 8 rfl <| OpsS_nil ?_
          obtain rfl := sI h
          exact thenQ_n ⟨(), M, ⟨hp, f⟩, flr rfl⟩
 ·rintro ⟨⟩ M1 ⟨hp2, f3⟩
  have h := k
  refine aT h rfl (fun hb h => ?_) (fun hb h => ?_)
  ·refine sr (by decide) <| OR 1 rfl <| nt <| aw_ret <| thenQ_ret ?_
   obtain rfl := sI h
   exact done_tmp rfl rf hp2
  ·refine aw_skip <| thenQ_n <| aw_seq <| sr (by decide) <| OD _ M1 rfl (o_fieldAddrP (fo := 4) U24 rfl ti22 (sz _) rfl) <| OD _ M1 rfl (o_loadP ag22 ti22 rfl f3 rfl rf) <| OD (kI (a0.Items.length : Int)) M1 rfl (o_lenL U22 rfl) ?_
   refine OR 1 rfl <| nt ?_
   obtain ⟨vc, h, k14⟩ := kont_some h
   refine aw_tailD (S := Unit) (G := Unit) vc (fun s g => Frm.of []) (fun s g M => H <+: M ∧ M[e]? = some (.cells (k_Api_Stream a0))) ?_ ?_
   ·refine aw_block ?_
    refine aw_loopD (S := Int) (G := Unit) (H1 := M1) h (fun s g => Frm.of [(1, .pt e 0), (55, .sl 2 (a0.Items.map c_Api_Item) .no), (56, kI (a0.Items.length : Int)), (57, kI s)]) (fun s g M => H <+: M ∧ M[e]? = some (.cells (k_Api_Stream a0))) () ⟨hp2, f3⟩ (flr rfl) ?_
    intro t5721 g1 M22 vc26 hI h k25
    obtain ⟨⟩ := g1
    obtain ⟨hp23, f24⟩ := hI
    unfold stream_Right_L1 at h
    refine sr (by decide) <| OR 1 rfl <| nt <| aw_seq ?_
    refine aT h rfl (fun hb27 h => ?_) (fun hb27 h => ?_)
    ·refine aw_skip <| thenQ_n <| aw_seq <| aw_block <| sr (by decide) <| OR 1 rfl ?_
     obtain ⟨x, qx, h⟩ := bs h
     refine OD _ M22 rfl (o_indexAddr (c := c_Api_Item) U22 ti29 rfl rfl qx) <| OD (.ag [kI x.Block, .sl 1 (x.Data.map c_u8) .no]) M22 rfl (o_loadEA ag29 ti29 rfl (Nat.le_of_ble_eq_true rfl) rf) ?_
     obtain ⟨M28, hM28⟩ := nM (M22 ++ [(.cells [kI 0, .sc (.slice none 0 0)])])
     obtain ⟨e29, he29⟩ := nE (M22.length)
     refine OD (.pt e29 0) M28 rfl (by rw [he29]; exact o_alloc ti29 hM28) ?_
     have ne := neE he29 f24
     have f30 := eqM hM28 (get_app f24)
     have hp31 := eqP hM28 (pre_app hp23)
     have f32 := nwE hM28 he29
     have lo33 := loE he29 hp23
     refine OR 1 rfl ?_
     obtain ⟨M34, hM34⟩ := nM (M28.set e29 (.cells [kI x.Block, .sl 1 (x.Data.map c_u8) .no]))
     refine OD (undefA) M34 rfl (o_store (cs' := [kI x.Block, .sl 1 (x.Data.map c_u8) .no]) ti29 rfl rfl f32 (sz _) rfl rfl rfl (Nat.le_of_ble_eq_true rfl) rfl hM34) ?_
     have f35 := eqM hM34 (get_ne ne f30)
     have f36 := eqM hM34 (get_self f32)
     have hp37 := eqP hM34 (pre_hi hp31 lo33)
     refine nt ?_
     obtain ⟨t95, h, k42⟩ := bs h
     refine aw_joinS (S := Bool) (G := Unit) t95 (fun s g => Frm.of [(1, .pt e 0), (55, .sl 2 (a0.Items.map c_Api_Item) .no), (56, kI (a0.Items.length : Int)), (57, kI t5721), (95, kB s)]) (fun s g M => H <+: M ∧ M[e]? = some (.cells (k_Api_Stream a0)) ∧ M[e29]? = some (.cells [kI x.Block, .sl 1 (x.Data.map c_u8) .no])) ?_ ?_
     ·refine aw_draw mixed [0, 1, 0, 0, 0, 1, 0, 1, 0, 0, 0, 0, 0, 0, 0, 1, 0, 1, 0, 0, 0, 0, 0, 0, 0, 0, 0, 0, 1, 0, 0, 1, 0, 0] (by decide) (by kernel_rfl) <| DD0 _ rfl (fun H0 => o_fieldAddrP (fo := 0) U29 rfl ti3 (sz _) rfl) <| DD1 _ rfl (fun H0 hB => o_loadP ag3 ti3 rfl (pre_get hB f36) rfl rf) <| DR 1 rfl ?_
      refine dT0 h rfl (fun H0 => o_move rf) (fun hg43 h => ?_) (fun hg43 h => ?_)
      ·refine DR 30 rfl <| DRun_nil ?_
       obtain rfl := sI h
       exact thenQ_n ⟨(), M34, ⟨hp37, f35, f36⟩, flr rfl⟩
      ·refine DD0 _ rfl (fun H0 => o_fieldAddrP (fo := 0) U29 rfl ti3 (sz _) rfl) <| DD1 _ rfl (fun H0 hB => o_loadP ag3 ti3 rfl (pre_get hB f36) rfl rf) <| DD0 _ rfl (fun H0 => o_fieldAddrP (fo := 0) U24 rfl ti3 (sz _) rfl) <| DD1 _ rfl (fun H0 hB => o_loadP ag3 ti3 rfl (pre_get hB f35) rfl rf) <| DR 2 rfl ?_
       refine dT0 h rfl (fun H0 => o_move rf) (fun hg44 h => ?_) (fun hg44 h => ?_)
       ·refine DR 23 rfl <| DRun_nil ?_
        obtain rfl := sI h
        exact thenQ_n ⟨(), M34, ⟨hp37, f35, f36⟩, flr rfl⟩
       ·refine DR 2 rfl ?_
        refine dT0 h rfl (fun H0 => o_move rf) (fun hg45 h => ?_) (fun hg45 h => ?_)
        ·refine DD0 _ rfl (fun H0 => o_fieldAddrP (fo := 0) U29 rfl ti3 (sz _) rfl) <| DD1 _ rfl (fun H0 hB => o_loadP ag3 ti3 rfl (pre_get hB f36) rfl rf) <| DD0 _ rfl (fun H0 => o_fieldAddrP (fo := 4) U24 rfl ti22 (sz _) rfl) <| DD1 _ rfl (fun H0 hB => o_loadP ag22 ti22 rfl (pre_get hB f35) rfl rf) <| DR 2 rfl ?_
         obtain ⟨x46, qx46, h⟩ := bs h
         refine DD0 _ rfl (fun H0 => o_indexAddr (c := c_Api_Item) U22 ti29 rfl rfl qx46) <| DD0 _ rfl (fun H0 => o_fieldAddrE (fo := 0) U29 rfl ti3 (sz _) rfl) <| DD0 (kI x46.Block) rfl (fun H0 => o_loadE ag3 ti3 rfl rf) <| DR 3 rfl ?_
         refine dT0 h rfl (fun H0 => o_move rf) (fun hg47 h => ?_) (fun hg47 h => ?_)
         ·refine DR 7 rfl <| DRun_nil ?_
          obtain rfl := sI h
          exact thenQ_n ⟨(), M34, ⟨hp37, f35, f36⟩, flr rfl⟩
         ·refine DD0 _ rfl (fun H0 => o_fieldAddrP (fo := 1) U29 rfl ti25 (sz _) rfl) <| DD1 _ rfl (fun H0 hB => o_loadP ag25 ti25 rfl (pre_get hB f36) rfl rf) <| DD0 (kI (x.Data.length : Int)) rfl (fun H0 => o_lenL U25 rfl) <| DD0 _ rfl (fun H0 => o_fieldAddrP (fo := 1) U24 rfl ti3 (sz _) rfl) <| DD1 _ rfl (fun H0 hB => o_loadP ag3 ti3 rfl (pre_get hB f35) rfl rf) <| DR 2 rfl <| DRun_nil ?_
          obtain rfl := sI h
          exact thenQ_n ⟨(), M34, ⟨hp37, f35, f36⟩, flr rfl⟩
        ·refine DR 13 rfl <| DD0 _ rfl (fun H0 => o_fieldAddrP (fo := 1) U29 rfl ti25 (sz _) rfl) <| DD1 _ rfl (fun H0 hB => o_loadP ag25 ti25 rfl (pre_get hB f36) rfl rf) <| DD0 (kI (x.Data.length : Int)) rfl (fun H0 => o_lenL U25 rfl) <| DD0 _ rfl (fun H0 => o_fieldAddrP (fo := 1) U24 rfl ti3 (sz _) rfl) <| DD1 _ rfl (fun H0 hB => o_loadP ag3 ti3 rfl (pre_get hB f35) rfl rf) <| DR 2 rfl <| DRun_nil ?_
         obtain rfl := sI h
         exact thenQ_n ⟨(), M34, ⟨hp37, f35, f36⟩, flr rfl⟩
     ·rintro ⟨⟩ M38 ⟨hp39, f40, f41⟩
      have h := k42
      refine aT h rfl (fun hb48 h => ?_) (fun hb48 h => ?_)
      ·refine sr (by decide) <| OR 1 rfl <| nt <| aw_ret <| blockQ_ret <| thenQ_ret ?_
       refine thenQ_ret ?_
       have h := early_ret h k25
       refine blockQ_ret <| thenQ_ret ?_
       have h := early_some h k14
       refine thenQ_ret ?_
       obtain rfl := sI h
       exact done_tmp rfl rf hp39
      ·refine aw_skip <| blockQ_n <| thenQ_n <| aw_region (by decide) <| OR 2 rfl <| OpsS_nil ?_
       exact thenQ_n ⟨(w64 (t5721 + 1)), (), M38, (Option.some.inj h).symm, ⟨hp39, f40⟩, flr rfl⟩
    ·refine aw_exit <| thenQ_exit <| thenQ_exit ?_
     have h := early_ret h k25
     refine blockQ_exit ?_
     exact thenQ_n ⟨(), (), M22, (Option.some.inj h).symm, ⟨hp23, f24⟩, Reb.fl trivial⟩
   ·rintro ⟨⟩ ⟨⟩ M11 rfl ⟨hp12, f13⟩
    have h := kont_go k14
    refine thenQ_n <| sr (by decide) <| OR 1 rfl <| nt <| aw_ret ?_
    obtain rfl := sI h
    exact done_tmp rfl rf hp12
set_option maxHeartbeats 4000000 in
theorem w_chain_Follows (a : Api_Stream) (b : Api_Stream) (H : Mem) {r : Bool} (h : chain_Follows a b = some r) : ACalls Try.prog 80 [.ag (k_Api_Stream a), .ag (k_Api_Stream b)] H (fun r' H' => r' = kB r ∧ H' = H) := by
 unfold chain_Follows at h
 refine ACalls.done0 rfl ?_
 refine acalls_walk Try.func80 rfl cl80 (by simp [Try.ntmps80]) (fun hB => ?_)
 refine aw_reb (Reb.of (l := [(0, .ag (k_Api_Stream a)), (1, .ag (k_Api_Stream b))]) (by simp [FrL, afr0])) ?_
 have hpre : H <+: H := List.prefix_refl _
 refine sr (by decide) ?_
 obtain ⟨M, hM⟩ := nM (H ++ [(.cells (k_Api_Stream a))])
 obtain ⟨e, he⟩ := nE (H.length)
 refine OD (.pt e 0) M rfl (by rw [he]; exact o_box rfl hM) ?_
 have hp := eqP hM (pre_app hpre)
 have f := nwE hM he
 have lo := loE he hpre
 obtain ⟨M1, hM1⟩ := nM (M ++ [(.cells (k_Api_Stream b))])
 obtain ⟨e2, he2⟩ := nE (M.length)
 refine OD (.pt e2 0) M1 rfl (by rw [he2]; exact o_box rfl hM1) ?_
 have ne := neE he2 f
 have f3 := eqM hM1 (get_app f)
 have hp4 := eqP hM1 (pre_app hp)
 have f5 := nwE hM1 he2
 have lo6 := loE he2 hp
 refine OR 1 rfl <| nt ?_
 obtain ⟨t4, h, k⟩ := bs h
 refine aw_joinS (S := Bool) (G := Unit) t4 (fun s g => Frm.of [(4, kB s)]) (fun s g M => H <+: M ∧ M[e]? = some (.cells (k_Api_Stream a)) ∧ M[e2]? = some (.cells (k_Api_Stream b))) ?_ ?_
 ·refine aw_region (by decide) <| OD (.ag (k_Api_Stream a)) M1 rfl (o_loadPA ag24 ti24 rfl f3 (Nat.le_of_ble_eq_true rfl) rf) ?_
  obtain ⟨y, q, h⟩ := bs h
  refine OD (kB y) M1 rfl (o_call (w_stream_Right a M1 q) ⟨rf, trivial⟩ rf) ?_
  refine oT h rfl (o_move rf) (fun hg h => ?_) (fun hg h => ?_)
  ·refine OD (.ag (k_Api_Stream b)) M1 rfl (o_loadPA ag24 ti24 rfl f5 (Nat.le_of_ble_eq_true rfl) rf) ?_
   obtain ⟨y11, q12, h⟩ := bs h
   refine OD (kB y11) M1 rfl (o_call (w_stream_Right b M1 q12) ⟨rf, trivial⟩ rf) <| OR 1 rfl ?_
   refine oT h rfl (o_move rf) (fun hg13 h => ?_) (fun hg13 h => ?_)
   ·refine OD _ M1 rfl (o_fieldAddrP (fo := 0) U24 rfl ti3 (sz _) rfl) <| OD _ M1 rfl (o_loadP ag3 ti3 rfl f3 rfl rf) <| OD _ M1 rfl (o_fieldAddrP (fo := 0) U24 rfl ti3 (sz _) rfl) <| OD _ M1 rfl (o_loadP ag3 ti3 rfl f5 rfl rf) <| OR 2 rfl ?_
    refine oT h rfl (o_move rf) (fun hg14 h => ?_) (fun hg14 h => ?_)
    ·refine OD _ M1 rfl (o_fieldAddrP (fo := 1) U24 rfl ti3 (sz _) rfl) <| OD _ M1 rfl (o_loadP ag3 ti3 rfl f3 rfl rf) <| OD _ M1 rfl (o_fieldAddrP (fo := 1) U24 rfl ti3 (sz _) rfl) <| OD _ M1 rfl (o_loadP ag3 ti3 rfl f5 rfl rf) <| OR 2 rfl ?_
     refine oT h rfl (o_move rf) (fun hg15 h => ?_) (fun hg15 h => ?_)
     ·refine OD _ M1 rfl (o_fieldAddrP (fo := 2) U24 rfl ti2 (sz _) rfl) <| OD _ M1 rfl (o_loadP ag2 ti2 rfl f5 rfl rf) <| OD _ M1 rfl (o_fieldAddrP (fo := 3) U24 rfl ti2 (sz _) rfl) <| OD _ M1 rfl (o_loadP ag2 ti2 rfl f3 rfl rf) <| OR 3 rfl <| OpsS_nil ?_
      obtain rfl := sI h
      exact thenQ_n ⟨(), M1, ⟨hp4, f3, f5⟩, flr rfl⟩
     ·refine OR 7 rfl <| OpsS_nil ?_
      obtain rfl := sI h
      exact thenQ_n ⟨(), M1, ⟨hp4, f3, f5⟩, flr rfl⟩
    ·refine OR 14 rfl <| OpsS_nil ?_
     obtain rfl := sI h
     exact thenQ_n ⟨(), M1, ⟨hp4, f3, f5⟩, flr rfl⟩
   ·refine OR 21 rfl <| OpsS_nil ?_
    obtain rfl := sI h
    exact thenQ_n ⟨(), M1, ⟨hp4, f3, f5⟩, flr rfl⟩
  ·refine OR 25 rfl <| OpsS_nil ?_
   obtain rfl := sI h
   exact thenQ_n ⟨(), M1, ⟨hp4, f3, f5⟩, flr rfl⟩
 ·rintro ⟨⟩ M7 ⟨hp8, f9, f10⟩
  have h := k
  refine aw_ret ?_
  obtain rfl := sI h
  exact done_tmp rfl rf hp8
set_option maxHeartbeats 4000000 in
theorem w_slices_insertionSortCmpFunc_api_Item (pdata : Nat) (data : (List Api_Item)) (a : Int) (b : Int) (cmp : (Api_Item → Api_Item → Option Int)) (ffcmp : Nat) (fscmp fccmp : List AV) (H : Mem) {r : (List Api_Item)} (h : slices_insertionSortCmpFunc_api_Item data a b cmp = some r) (fpdata0 : H[pdata]? = some (.cells ((data.map c_Api_Item).flatten.map PV.av))) (hfcmp : ∀ (z0 : Api_Item) (z1 : Api_Item) (zr : Int), cmp z0 z1 = some zr → ∀ (zy : Ent) M, H.set pdata zy <+: M → ACalls Try.prog ffcmp (fscmp ++ [.ag [kI z0.Block, .sl 1 (z0.Data.map c_u8) .no], .ag [kI z1.Block, .sl 1 (z1.Data.map c_u8) .no]] ++ fccmp) M (fun r' H' => r' = kI zr ∧ H' = M)) : ACalls Try.prog 137 [.hs pdata 0 data.length data.length 2, kI a, kI b, .fn (.func ffcmp) fscmp fccmp] H (fun r' H' => r' = .tp [] ∧ H' = H.set pdata (.cells ((r.map c_Api_Item).flatten.map PV.av))) := by
 unfold slices_insertionSortCmpFunc_api_Item at h
 refine ACalls.done (by simp) (fun hB => MBd.setO (hB)) (AV.clo_bd rfl) ?_
 refine acalls_walk Try.func137 rfl cl137 (by simp [Try.ntmps137]) (fun hB => ?_)
 refine aw_reb (Reb.of (l := [(0, .hs pdata 0 data.length data.length 2), (1, kI a), (2, kI b), (3, .fn (.func ffcmp) fscmp fccmp)]) (by simp [FrL, afr0])) ?_
 have fpdata := fpdata0
 have lnpdata : data.length = data.length := rfl
 have hpre : (H.set pdata (.cells ((data.map c_Api_Item).flatten.map PV.av))) <+: H := pre_set fpdata
 refine sr (by decide) <| OR 3 rfl <| nt ?_
 obtain ⟨mpdata, h, k⟩ := bs h
 refine aw_tailS (S := (List Api_Item)) (G := Unit) mpdata (fun s g => Frm.of []) (fun s g M => (H.set pdata (.cells ((s.map c_Api_Item).flatten.map PV.av))) <+: M ∧ M[pdata]? = some (.cells ((s.map c_Api_Item).flatten.map PV.av)) ∧ s.length = data.length) ?_ ?_
 ·refine aw_block ?_
  refine aw_loopD (S := (Int × (List Api_Item))) (G := Unit) (H1 := H) h (fun s g => Frm.of [(0, .hs pdata 0 data.length data.length 2), (1, kI a), (2, kI b), (3, .fn (.func ffcmp) fscmp fccmp), (8, kI s.1)]) (fun s g M => (H.set pdata (.cells ((s.2.map c_Api_Item).flatten.map PV.av))) <+: M ∧ M[pdata]? = some (.cells ((s.2.map c_Api_Item).flatten.map PV.av)) ∧ s.2.length = data.length) () ⟨hpre, fpdata, lnpdata⟩ (flr rfl) ?_
  intro s1 g1 M12 vc hI h k16
  obtain ⟨i10, mpdata11⟩ := s1
  obtain ⟨⟩ := g1
  obtain ⟨hp13, f14, ln15⟩ := hI
  unfold slices_insertionSortCmpFunc_api_Item_L1 at h
  refine aw_seq <| sr (by decide) <| OR 3 rfl <| nt ?_
  refine aT h rfl (fun hb h => ?_) (fun hb h => ?_)
  ·refine aw_skip <| thenQ_n <| aw_seq <| aw_block <| sr (by decide) <| OR 2 rfl <| OpsS_nil ?_
   refine thenQ_n ?_
   obtain ⟨mpdata17, h, k22⟩ := bs h
   refine aw_tailS (S := (List Api_Item)) (G := Unit) mpdata17 (fun s g => Frm.of [(0, .hs pdata 0 data.length data.length 2), (1, kI a), (2, kI b), (3, .fn (.func ffcmp) fscmp fccmp), (8, kI i10)]) (fun s g M => (H.set pdata (.cells ((s.map c_Api_Item).flatten.map PV.av))) <+: M ∧ M[pdata]? = some (.cells ((s.map c_Api_Item).flatten.map PV.av)) ∧ s.length = data.length) ?_ ?_
   ·refine aw_block ?_
    refine aw_loopD (S := (Int × (List Api_Item))) (G := Unit) (H1 := M12) h (fun s g => Frm.of [(0, .hs pdata 0 data.length data.length 2), (1, kI a), (2, kI b), (3, .fn (.func ffcmp) fscmp fccmp), (8, kI i10), (9, kI s.1)]) (fun s g M => (H.set pdata (.cells ((s.2.map c_Api_Item).flatten.map PV.av))) <+: M ∧ M[pdata]? = some (.cells ((s.2.map c_Api_Item).flatten.map PV.av)) ∧ s.2.length = data.length) () ⟨hp13, f14, ln15⟩ (flr rfl) ?_
    intro s1 g1 M34 vc39 hI h k38
    obtain ⟨j32, mpdata33⟩ := s1
    obtain ⟨⟩ := g1
    obtain ⟨hp35, f36, ln37⟩ := hI
    unfold slices_insertionSortCmpFunc_api_Item_L2 at h
    refine aw_seq ?_
    obtain ⟨t34, h, k44⟩ := bs h
    refine aw_joinS (S := Bool) (G := Unit) t34 (fun s g => Frm.of [(0, .hs pdata 0 data.length data.length 2), (1, kI a), (2, kI b), (3, .fn (.func ffcmp) fscmp fccmp), (8, kI i10), (9, kI j32), (34, kB s)]) (fun s g M => (H.set pdata (.cells ((mpdata33.map c_Api_Item).flatten.map PV.av))) <+: M ∧ M[pdata]? = some (.cells ((mpdata33.map c_Api_Item).flatten.map PV.av)) ∧ mpdata33.length = data.length) ?_ ?_
    ·refine aw_draw mixed [0, 0, 0, 0, 0, 0, 0, 0, 1, 0, 0, 0, 0, 1, 1, 0, 0] (by decide) (by kernel_rfl) <| DR 3 rfl ?_
     refine dT0 h rfl (fun H0 => o_move rf) (fun hg h => ?_) (fun hg h => ?_)
     ·refine DR 3 rfl ?_
      obtain ⟨x, qx, h⟩ := bs h
      refine DD0 (.pt pdata (j32.toNat * 2)) rfl (fun H0 => o_indexAddrO (l := mpdata33) U22 ti29 rfl rfl ln37 qx) <| DD1 (.ag [kI x.Block, .sl 1 (x.Data.map c_u8) .no]) rfl (fun H0 hB => o_loadOA (c := c_Api_Item) (z := 2) (j := 0) (l := mpdata33) (i := j32) (a := x) ag29 ti29 rfl (by omega) (pre_get hB f36) (fun _ => rfl) qx (by decide) rf) <| DR 3 rfl ?_
      obtain ⟨x45, qx45, h⟩ := bs h
      refine DD0 (.pt pdata ((IntKind.wrap .i64 (j32 - 1)).toNat * 2)) rfl (fun H0 => o_indexAddrO (l := mpdata33) U22 ti29 rfl rfl ln37 qx45) <| DD1 (.ag [kI x45.Block, .sl 1 (x45.Data.map c_u8) .no]) rfl (fun H0 hB => o_loadOA (c := c_Api_Item) (z := 2) (j := 0) (l := mpdata33) (i := (IntKind.wrap .i64 (j32 - 1))) (a := x45) ag29 ti29 rfl (by omega) (pre_get hB f36) (fun _ => rfl) qx45 (by decide) rf) ?_
      obtain ⟨y, qy, h⟩ := bs h
      refine DD1 (kI y) rfl (fun H0 hB => o_callv rfl (hfcmp x x45 _ qy _ H0 (hp35.trans hB)) (ALe.refl _) rf) <| DR 2 rfl <| DRun_nil ?_
      obtain rfl := sI h
      exact thenQ_n ⟨(), M34, ⟨hp35, f36, ln37⟩, flr rfl⟩
     ·refine DR 13 rfl <| DRun_nil ?_
      obtain rfl := sI h
      exact thenQ_n ⟨(), M34, ⟨hp35, f36, ln37⟩, flr rfl⟩
    ·rintro ⟨⟩ M40 ⟨hp41, f42, ln43⟩
     have h := k44
     refine aT h rfl (fun hb46 h => ?_) (fun hb46 h => ?_)
     ·refine aw_skip <| thenQ_n <| aw_seq <| aw_block <| aw_draw mixed [0, 0, 0, 0, 0, 0, 0, 0, 0, 1, 0, 0, 0, 1, 0, 2, 0, 2] (by decide) (by kernel_rfl) <| DR 8 rfl ?_
      obtain ⟨x47, qx47, h⟩ := bs h
      refine DD0 (.pt pdata ((IntKind.wrap .i64 (j32 - 1)).toNat * 2)) rfl (fun H0 => o_indexAddrO (l := mpdata33) U22 ti29 rfl rfl ln43 qx47) <| DD1 (.ag [kI x47.Block, .sl 1 (x47.Data.map c_u8) .no]) rfl (fun H0 hB => o_loadOA (c := c_Api_Item) (z := 2) (j := 0) (l := mpdata33) (i := (IntKind.wrap .i64 (j32 - 1))) (a := x47) ag29 ti29 rfl (by omega) (pre_get hB f42) (fun _ => rfl) qx47 (by decide) rf) <| DR 2 rfl ?_
      obtain ⟨x48, qx48, h⟩ := bs h
      refine DD0 (.pt pdata (j32.toNat * 2)) rfl (fun H0 => o_indexAddrO (l := mpdata33) U22 ti29 rfl rfl ln43 qx48) <| DD1 (.ag [kI x48.Block, .sl 1 (x48.Data.map c_u8) .no]) rfl (fun H0 hB => o_loadOA (c := c_Api_Item) (z := 2) (j := 0) (l := mpdata33) (i := j32) (a := x48) ag29 ti29 rfl (by omega) (pre_get hB f42) (fun _ => rfl) qx48 (by decide) rf) <| DD0 (.pt pdata (j32.toNat * 2)) rfl (fun H0 => o_indexAddrO (l := mpdata33) U22 ti29 rfl rfl ln43 qx48) ?_
      obtain ⟨m, qm, h⟩ := bs h
      obtain ⟨M49, hM49⟩ := nM (M40.set pdata (.cells ((m.map c_Api_Item).flatten.map PV.av)))
      have ln50 : m.length = data.length := (updL_len qm).trans ln43
      have f51 := eqM hM49 (get_self f42)
      have hp52 : (H.set pdata (.cells ((m.map c_Api_Item).flatten.map PV.av))) <+: M49 := by rw [hM49]; have q := pre_lo (i := pdata) (x := (.cells ((m.map c_Api_Item).flatten.map PV.av))) hp41 (by simp only [List.length_set]; exact (lt_of_get fpdata0)); simpa using q
      refine DD2 (undefA) M49 rfl (o_storeOA (c := c_Api_Item) (z := 2) (l := mpdata33) (i := j32) (a := x48) (a' := x47) ti29 rfl (by omega) (sz _) rfl rfl rfl f42 (fun _ => rfl) qx48 qm hM49) trivial ?_
      obtain ⟨x53, qx53, h⟩ := bs h
      refine DD0 (.pt pdata ((IntKind.wrap .i64 (j32 - 1)).toNat * 2)) rfl (fun H0 => o_indexAddrO (l := m) U22 ti29 rfl rfl ln50 qx53) ?_
      obtain ⟨m54, qm54, h⟩ := bs h
      obtain ⟨M55, hM55⟩ := nM (M49.set pdata (.cells ((m54.map c_Api_Item).flatten.map PV.av)))
      have ln56 : m54.length = data.length := (updL_len qm54).trans ln50
      have f57 := eqM hM55 (get_self f51)
      have hp58 : (H.set pdata (.cells ((m54.map c_Api_Item).flatten.map PV.av))) <+: M55 := by rw [hM55]; have q := pre_lo (i := pdata) (x := (.cells ((m54.map c_Api_Item).flatten.map PV.av))) hp52 (by simp only [List.length_set]; exact (lt_of_get fpdata0)); simpa using q
      refine DD2 (undefA) M55 rfl (o_storeOA (c := c_Api_Item) (z := 2) (l := m) (i := (IntKind.wrap .i64 (j32 - 1))) (a := x53) (a' := x48) ti29 rfl (by omega) (sz _) rfl rfl rfl f51 (fun _ => rfl) qx53 qm54 hM55) trivial <| DRun_nil <| blockQ_n <| thenQ_n <| aw_region (by decide) <| OR 3 rfl <| OpsS_nil ?_
      exact thenQ_n ⟨((IntKind.wrap .i64 (j32 - 1)), m54), (), M55, (Option.some.inj h).symm, ⟨hp58, f57, ln56⟩, flr rfl⟩
     ·refine aw_exit <| thenQ_exit <| thenQ_exit ?_
      have h := early_ret h k38
      refine blockQ_exit ?_
      obtain rfl := sI h
      exact thenQ_n ⟨(), M40, ⟨hp41, f42, ln43⟩, flr rfl⟩
   ·rintro ⟨⟩ M18 ⟨hp19, f20, ln21⟩
    have h := k22
    refine blockQ_n <| thenQ_n <| aw_region (by decide) <| OR 3 rfl <| OpsS_nil ?_
    exact thenQ_n ⟨((IntKind.wrap .i64 (i10 + 1)), mpdata17), (), M18, (Option.some.inj h).symm, ⟨hp19, f20, ln21⟩, flr rfl⟩
  ·refine aw_exit <| thenQ_exit <| thenQ_exit ?_
   have h := early_ret h k16
   refine blockQ_exit ?_
   obtain rfl := sI h
   exact thenQ_n ⟨(), M12, ⟨hp13, f14, ln15⟩, Reb.fl trivial⟩
 ·rintro ⟨⟩ M ⟨hp, f, ln⟩
  have h := k
  obtain rfl := sI h
  exact done_none rfl hp
set_option maxHeartbeats 4000000 in
theorem w_slices_stableCmpFunc_api_Item (pdata : Nat) (data : (List Api_Item)) (n : Int) (cmp : (Api_Item → Api_Item → Option Int)) (ffcmp : Nat) (fscmp fccmp : List AV) (H : Mem) {r : (List Api_Item)} (h : slices_stableCmpFunc_api_Item data n cmp = some r) (fpdata0 : H[pdata]? = some (.cells ((data.map c_Api_Item).flatten.map PV.av))) (hfcmp : ∀ (z0 : Api_Item) (z1 : Api_Item) (zr : Int), cmp z0 z1 = some zr → ∀ (zy : Ent) M, H.set pdata zy <+: M → ACalls Try.prog ffcmp (fscmp ++ [.ag [kI z0.Block, .sl 1 (z0.Data.map c_u8) .no], .ag [kI z1.Block, .sl 1 (z1.Data.map c_u8) .no]] ++ fccmp) M (fun r' H' => r' = kI zr ∧ H' = M)) : ACalls Try.prog 118 [.hs pdata 0 data.length data.length 2, kI n, .fn (.func ffcmp) fscmp fccmp] H (fun r' H' => r' = .tp [] ∧ H' = H.set pdata (.cells ((r.map c_Api_Item).flatten.map PV.av))) := by
 unfold slices_stableCmpFunc_api_Item at h
 refine ACalls.done (by simp) (fun hB => MBd.setO (hB)) (AV.clo_bd rfl) ?_
 refine acalls_walk Try.func118 rfl cl118 (by simp [Try.ntmps118]) (fun hB => ?_)
 refine aw_reb (Reb.of (l := [(0, .hs pdata 0 data.length data.length 2), (1, kI n), (2, .fn (.func ffcmp) fscmp fccmp)]) (by simp [FrL, afr0])) ?_
 have fpdata := fpdata0
 have lnpdata : data.length = data.length := rfl
 have hpre : (H.set pdata (.cells ((data.map c_Api_Item).flatten.map PV.av))) <+: H := pre_set fpdata
 refine sr (by decide) <| OR 1 rfl <| nt <| sr (by decide) <| OR 3 rfl ?_
 refine nt ?_
 obtain ⟨vc, h, k⟩ := bs h
 refine aw_joinS (S := (Int × (List Api_Item))) (G := Unit) vc (fun s g => Frm.of [(0, .hs pdata 0 data.length data.length 2), (1, kI n), (2, .fn (.func ffcmp) fscmp fccmp), (6, kI 20), (7, kI s.1)]) (fun s g M => (H.set pdata (.cells ((s.2.map c_Api_Item).flatten.map PV.av))) <+: M ∧ M[pdata]? = some (.cells ((s.2.map c_Api_Item).flatten.map PV.av)) ∧ s.2.length = data.length) ?_ ?_
 ·refine aw_block ?_
  refine aw_loopD (S := (Int × Int × (List Api_Item))) (G := Unit) (H1 := H) h (fun s g => Frm.of [(0, .hs pdata 0 data.length data.length 2), (1, kI n), (2, .fn (.func ffcmp) fscmp fccmp), (6, kI 20), (7, kI s.1), (8, kI s.2.1)]) (fun s g M => (H.set pdata (.cells ((s.2.2.map c_Api_Item).flatten.map PV.av))) <+: M ∧ M[pdata]? = some (.cells ((s.2.2.map c_Api_Item).flatten.map PV.av)) ∧ s.2.2.length = data.length) () ⟨hpre, fpdata, lnpdata⟩ (flr rfl) ?_
  intro s1 g1 M14 vc19 hI h k18
  obtain ⟨a11, b12, mpdata13⟩ := s1
  obtain ⟨⟩ := g1
  obtain ⟨hp15, f16, ln17⟩ := hI
  unfold slices_stableCmpFunc_api_Item_L1 at h
  refine aw_seq <| sr (by decide) <| OR 3 rfl <| nt ?_
  refine aT h rfl (fun hb h => ?_) (fun hb h => ?_)
  ·refine aw_skip <| thenQ_n <| aw_block <| sr (by decide) <| OR 4 rfl ?_
   obtain ⟨y, q, h⟩ := bs h
   obtain ⟨⟨⟩, hl, h⟩ := bs h
   obtain ⟨M20, hM20⟩ := nM (M14.set pdata (.cells ((y.map c_Api_Item).flatten.map PV.av)))
   refine OD (.tp []) M20 rfl (by rw [hM20]; exact o_call (w_slices_insertionSortCmpFunc_api_Item pdata mpdata13 a11 b12 cmp ffcmp fscmp fccmp M14 q f16 (fun z0 z1 zr zh zy zM zhM => hfcmp z0 z1 zr zh zy zM ((by have q := pre_lo (i := pdata) (x := zy) hp15 (by simp only [List.length_set]; exact (lt_of_get fpdata0)); simpa using q : H.set pdata zy <+: M14.set pdata zy).trans zhM))) ⟨.hsn ln17, rf, rf, .refl _, trivial⟩ rf) ?_
   have ln21 : y.length = data.length := (chkl_some hl)
   have f22 := eqM hM20 (get_self f16)
   have hp23 : (H.set pdata (.cells ((y.map c_Api_Item).flatten.map PV.av))) <+: M20 := by rw [hM20]; have q := pre_lo (i := pdata) (x := (.cells ((y.map c_Api_Item).flatten.map PV.av))) hp15 (by simp only [List.length_set]; exact (lt_of_get fpdata0)); simpa using q
   refine nt <| sr (by decide) <| OR 2 rfl <| nt <| aw_region (by decide) ?_
   refine OR 4 rfl <| OpsS_nil <| blockQ_n ?_
   exact thenQ_n ⟨(b12, (w64 (b12 + 20)), y), (), M20, (Option.some.inj h).symm, ⟨hp23, f22, ln21⟩, flr rfl⟩
  ·refine aw_exit <| thenQ_exit <| thenQ_exit ?_
   have h := early_ret h k18
   refine blockQ_exit ?_
   obtain rfl := sI h
   exact thenQ_n ⟨(), M14, ⟨hp15, f16, ln17⟩, flr rfl⟩
 ·obtain ⟨a, mpdata⟩ := vc
  rintro ⟨⟩ M ⟨hp, f, ln⟩
  have h := k
  refine sr (by decide) <| OR 4 rfl ?_
  obtain ⟨y24, q25, h⟩ := bs h
  obtain ⟨⟨⟩, hl26, h⟩ := bs h
  obtain ⟨M27, hM27⟩ := nM (M.set pdata (.cells ((y24.map c_Api_Item).flatten.map PV.av)))
  refine OD (.tp []) M27 rfl (by rw [hM27]; exact o_call (w_slices_insertionSortCmpFunc_api_Item pdata mpdata a n cmp ffcmp fscmp fccmp M q25 f (fun z0 z1 zr zh zy zM zhM => hfcmp z0 z1 zr zh zy zM ((by have q := pre_lo (i := pdata) (x := zy) hp (by simp only [List.length_set]; exact (lt_of_get fpdata0)); simpa using q : H.set pdata zy <+: M.set pdata zy).trans zhM))) ⟨.hsn ln, rf, rf, .refl _, trivial⟩ rf) ?_
  have ln28 : y24.length = data.length := (chkl_some hl26)
  have f29 := eqM hM27 (get_self f)
  have hp30 : (H.set pdata (.cells ((y24.map c_Api_Item).flatten.map PV.av))) <+: M27 := by rw [hM27]; have q := pre_lo (i := pdata) (x := (.cells ((y24.map c_Api_Item).flatten.map PV.av))) hp (by simp only [List.length_set]; exact (lt_of_get fpdata0)); simpa using q
  refine nt ?_
  obtain ⟨vc36, h, k35⟩ := bs h
  refine aw_tailS (S := Unit) (G := Unit) vc36 (fun s g => Frm.of []) (fun s g M => (H.set pdata (.cells ((y24.map c_Api_Item).flatten.map PV.av))) <+: M ∧ M[pdata]? = some (.cells ((y24.map c_Api_Item).flatten.map PV.av)) ∧ y24.length = data.length) ?_ ?_
  ·refine aw_block ?_
   refine aw_loopD (S := Int) (G := Unit) (H1 := M27) h (fun s g => Frm.of [(0, .hs pdata 0 data.length data.length 2), (1, kI n), (2, .fn (.func ffcmp) fscmp fccmp), (6, kI s)]) (fun s g M => (H.set pdata (.cells ((y24.map c_Api_Item).flatten.map PV.av))) <+: M ∧ M[pdata]? = some (.cells ((y24.map c_Api_Item).flatten.map PV.av)) ∧ y24.length = data.length) () ⟨hp30, f29, ln28⟩ (flr rfl) ?_
   intro blockSize45 g1 M46 vc51 hI h k50
   obtain ⟨⟩ := g1
   obtain ⟨hp47, f48, ln49⟩ := hI
   unfold slices_stableCmpFunc_api_Item_L2 at h
   refine aw_seq <| sr (by decide) <| OR 3 rfl <| nt ?_
   refine aT h rfl (fun hb52 h => ?_) (fun hb52 h => ?_)
   ·refine aw_skip <| thenQ_n <| aw_block <| sr (by decide) <| OR 4 rfl <| nt ?_
    obtain ⟨vc58, h, k57⟩ := bs h
    refine aw_joinS (S := Unit) (G := Unit) vc58 (fun s g => Frm.of [(0, .hs pdata 0 data.length data.length 2), (1, kI n), (2, .fn (.func ffcmp) fscmp fccmp), (6, kI blockSize45), (7, kI 0)]) (fun s g M => (H.set pdata (.cells ((y24.map c_Api_Item).flatten.map PV.av))) <+: M ∧ M[pdata]? = some (.cells ((y24.map c_Api_Item).flatten.map PV.av)) ∧ y24.length = data.length) ?_ ?_
    ·refine aw_block ?_
     refine aw_loopD (S := Unit) (G := Unit) (H1 := M46) h (fun s g => Frm.of [(0, .hs pdata 0 data.length data.length 2), (1, kI n), (2, .fn (.func ffcmp) fscmp fccmp), (6, kI blockSize45), (7, kI 0), (8, kI (w64 (2 * blockSize45)))]) (fun s g M => (H.set pdata (.cells ((y24.map c_Api_Item).flatten.map PV.av))) <+: M ∧ M[pdata]? = some (.cells ((y24.map c_Api_Item).flatten.map PV.av)) ∧ y24.length = data.length) () ⟨hp47, f48, ln49⟩ (flr rfl) ?_
     intro s1 g1 M63 vc68 hI h k67
     obtain ⟨⟩ := s1
     obtain ⟨⟩ := g1
     obtain ⟨hp64, f65, ln66⟩ := hI
     unfold slices_stableCmpFunc_api_Item_L3 at h
     refine aw_seq <| sr (by decide) <| OR 3 rfl <| nt ?_
     refine aT h rfl (fun hb69 h => ?_) (fun hb69 h => ?_)
     ·cases h
     ·refine aw_exit <| thenQ_exit <| thenQ_exit ?_
      have h := early_ret h k67
      refine blockQ_exit ?_
      obtain rfl := sI h
      exact thenQ_n ⟨(), M63, ⟨hp64, f65, ln66⟩, flr rfl⟩
    ·obtain ⟨⟩ := vc58
     rintro ⟨⟩ M53 ⟨hp54, f55, ln56⟩
     have h := k57
     refine aw_seq <| sr (by decide) <| OR 4 rfl <| nt <| sr (by decide) ?_
     refine OR 3 rfl <| nt ?_
     refine aT h rfl (fun hb70 h => ?_) (fun hb70 h => ?_)
     ·cases h
     ·refine aw_skip <| thenQ_n <| aw_region (by decide) <| OR 3 rfl <| OpsS_nil <| blockQ_n ?_
      exact thenQ_n ⟨(w64 (blockSize45 * 2)), (), M53, (Option.some.inj h).symm, ⟨hp54, f55, ln56⟩, flr rfl⟩
   ·refine aw_exit <| thenQ_exit <| thenQ_exit ?_
    have h := early_ret h k50
    refine blockQ_exit ?_
    obtain rfl := sI h
    exact thenQ_n ⟨(), M46, ⟨hp47, f48, ln49⟩, Reb.fl trivial⟩
  ·obtain ⟨⟩ := vc36
   rintro ⟨⟩ M31 ⟨hp32, f33, ln34⟩
   have h := k35
   obtain rfl := sI h
   exact done_none rfl hp32
set_option maxHeartbeats 4000000 in
theorem w_slices_SortStableFunc_Lapi_Item_api_Item (px : Nat) (x : (List Api_Item)) (cmp : (Api_Item → Api_Item → Option Int)) (ffcmp : Nat) (fscmp fccmp : List AV) (H : Mem) {r : (List Api_Item)} (h : slices_SortStableFunc_Lapi_Item_api_Item x cmp = some r) (fpx0 : H[px]? = some (.cells ((x.map c_Api_Item).flatten.map PV.av))) (hfcmp : ∀ (z0 : Api_Item) (z1 : Api_Item) (zr : Int), cmp z0 z1 = some zr → ∀ (zy : Ent) M, H.set px zy <+: M → ACalls Try.prog ffcmp (fscmp ++ [.ag [kI z0.Block, .sl 1 (z0.Data.map c_u8) .no], .ag [kI z1.Block, .sl 1 (z1.Data.map c_u8) .no]] ++ fccmp) M (fun r' H' => r' = kI zr ∧ H' = M)) : ACalls Try.prog 85 [.hs px 0 x.length x.length 2, .fn (.func ffcmp) fscmp fccmp] H (fun r' H' => r' = .tp [] ∧ H' = H.set px (.cells ((r.map c_Api_Item).flatten.map PV.av))) := by
 unfold slices_SortStableFunc_Lapi_Item_api_Item at h
 refine ACalls.done (by simp) (fun hB => MBd.setO (hB)) (AV.clo_bd rfl) ?_
 refine acalls_walk Try.func85 rfl cl85 (by simp [Try.ntmps85]) (fun hB => ?_)
 refine aw_reb (Reb.of (l := [(0, .hs px 0 x.length x.length 2), (1, .fn (.func ffcmp) fscmp fccmp)]) (by simp [FrL, afr0])) ?_
 have fpx := fpx0
 have lnpx : x.length = x.length := rfl
 have hpre : (H.set px (.cells ((x.map c_Api_Item).flatten.map PV.av))) <+: H := pre_set fpx
 refine aw_region (by decide) <| OR 2 rfl <| OD (kI (x.length : Int)) H rfl (o_lenH U22 rfl) <| OR 1 rfl ?_
 obtain ⟨y, q, h⟩ := bs h
 obtain ⟨⟨⟩, hl, h⟩ := bs h
 obtain ⟨M, hM⟩ := nM (H.set px (.cells ((y.map c_Api_Item).flatten.map PV.av)))
 refine OD (.tp []) M rfl (by rw [hM]; exact o_call (w_slices_stableCmpFunc_api_Item px x (x.length : Int) cmp ffcmp fscmp fccmp H q fpx (fun z0 z1 zr zh zy zM zhM => hfcmp z0 z1 zr zh zy zM ((by have q := pre_lo (i := px) (x := zy) hpre (by simp only [List.length_set]; exact (lt_of_get fpx0)); simpa using q : H.set px zy <+: H.set px zy).trans zhM))) ⟨.refl _, rf, .refl _, trivial⟩ rf) ?_
 have ln : y.length = x.length := (chkl_some hl)
 have f := eqM hM (get_self fpx)
 have hp : (H.set px (.cells ((y.map c_Api_Item).flatten.map PV.av))) <+: M := by rw [hM]; have q := pre_lo (i := px) (x := (.cells ((y.map c_Api_Item).flatten.map PV.av))) hpre (by simp only [List.length_set]; exact (lt_of_get fpx0)); simpa using q
 refine OpsS_nil ?_
 obtain rfl := sI h
 exact done_none rfl hp
set_option maxHeartbeats 4000000 in
theorem w_cmp_isNaN_int (x : Int) (H : Mem) {r : Bool} (h : cmp_isNaN_int x = some r) : ACalls Try.prog 119 [kI x] H (fun r' H' => r' = kB r ∧ H' = H) := by
 unfold cmp_isNaN_int at h
 refine ACalls.done0 rfl ?_
 refine acalls_walk Try.func119 rfl cl119 (by simp [Try.ntmps119]) (fun hB => ?_)
 refine aw_reb (Reb.of (l := [(0, kI x)]) (by simp [FrL, afr0])) ?_
 have hpre : H <+: H := List.prefix_refl _
 refine sr (by decide) <| OR 1 rfl <| nt <| sr (by decide) <| OR 4 rfl ?_
 refine nt <| aw_ret ?_
 obtain rfl := sI h
 exact done_tmp rfl rf hpre
set_option maxHeartbeats 4000000 in
theorem w_cmp_Compare_int (x : Int) (y : Int) (H : Mem) {r : Int} (h : cmp_Compare_int x y = some r) : ACalls Try.prog 87 [kI x, kI y] H (fun r' H' => r' = kI r ∧ H' = H) := by
 unfold cmp_Compare_int at h
 refine ACalls.done0 rfl ?_
 refine acalls_walk Try.func87 rfl cl87 (by simp [Try.ntmps87]) (fun hB => ?_)
 refine aw_reb (Reb.of (l := [(0, kI x), (1, kI y)]) (by simp [FrL, afr0])) ?_
 have hpre : H <+: H := List.prefix_refl _
 refine sr (by decide) <| OR 1 rfl <| nt <| sr (by decide) <| OR 1 rfl ?_
 obtain ⟨y1, q, h⟩ := bs h
 refine OD (kB y1) H rfl (o_call (w_cmp_isNaN_int x H q) ⟨rf, trivial⟩ rf) <| OR 1 rfl <| nt <| sr (by decide) <| OR 1 rfl ?_
 obtain ⟨y2, q3, h⟩ := bs h
 refine OD (kB y2) H rfl (o_call (w_cmp_isNaN_int y H q3) ⟨rf, trivial⟩ rf) <| OR 1 rfl <| nt <| aw_seq <| sr (by decide) <| OR 1 rfl ?_
 refine nt ?_
 refine aT h rfl (fun hb h => ?_) (fun hb h => ?_)
 ·refine aw_seq <| sr (by decide) <| OR 1 rfl <| nt ?_
  refine aT h rfl (fun hb4 h => ?_) (fun hb4 h => ?_)
  ·refine sr (by decide) <| OR 1 rfl <| nt <| aw_ret <| thenQ_ret <| thenQ_ret ?_
   obtain rfl := sI h
   exact done_tmp rfl rf hpre
  ·refine aw_skip <| thenQ_n <| sr (by decide) <| OR 1 rfl <| nt <| aw_ret ?_
   refine thenQ_ret ?_
   obtain rfl := sI h
   exact done_tmp rfl rf hpre
 ·refine aw_skip <| thenQ_n <| aw_seq <| sr (by decide) <| OR 1 rfl <| nt ?_
  refine aT h rfl (fun hb5 h => ?_) (fun hb5 h => ?_)
  ·refine sr (by decide) <| OR 1 rfl <| nt <| aw_ret <| thenQ_ret ?_
   obtain rfl := sI h
   exact done_tmp rfl rf hpre
  ·refine aw_skip <| thenQ_n <| aw_seq <| sr (by decide) <| OR 3 rfl <| nt ?_
   refine aT h rfl (fun hb6 h => ?_) (fun hb6 h => ?_)
   ·refine sr (by decide) <| OR 1 rfl <| nt <| aw_ret <| thenQ_ret ?_
    obtain rfl := sI h
    exact done_tmp rfl rf hpre
   ·refine aw_skip <| thenQ_n <| aw_seq <| sr (by decide) <| OR 3 rfl <| nt ?_
    refine aT h rfl (fun hb7 h => ?_) (fun hb7 h => ?_)
    ·refine sr (by decide) <| OR 1 rfl <| nt <| aw_ret <| thenQ_ret ?_
     obtain rfl := sI h
     exact done_tmp rfl rf hpre
    ·refine aw_skip <| thenQ_n <| sr (by decide) <| OR 1 rfl <| nt <| aw_ret ?_
     obtain rfl := sI h
     exact done_tmp rfl rf hpre
set_option maxHeartbeats 4000000 in
theorem w_chain_Merge_1 (x : Api_Item) (y : Api_Item) (H : Mem) {r : Int} (h : chain_Merge_1 x y = some r) : ACalls Try.prog 86 [.ag [kI x.Block, .sl 1 (x.Data.map c_u8) .no], .ag [kI y.Block, .sl 1 (y.Data.map c_u8) .no]] H (fun r' H' => r' = kI r ∧ H' = H) := by
 unfold chain_Merge_1 at h
 refine ACalls.done0 rfl ?_
 refine acalls_walk Try.func86 rfl cl86 (by simp [Try.ntmps86]) (fun hB => ?_)
 refine aw_reb (Reb.of (l := [(0, .ag [kI x.Block, .sl 1 (x.Data.map c_u8) .no]), (1, .ag [kI y.Block, .sl 1 (y.Data.map c_u8) .no])]) (by simp [FrL, afr0])) ?_
 have hpre : H <+: H := List.prefix_refl _
 refine sr (by decide) ?_
 obtain ⟨M, hM⟩ := nM (H ++ [(.cells [kI x.Block, .sl 1 (x.Data.map c_u8) .no])])
 obtain ⟨e, he⟩ := nE (H.length)
 refine OD (.pt e 0) M rfl (by rw [he]; exact o_box rfl hM) ?_
 have hp := eqP hM (pre_app hpre)
 have f := nwE hM he
 have lo := loE he hpre
 obtain ⟨M1, hM1⟩ := nM (M ++ [(.cells [kI y.Block, .sl 1 (y.Data.map c_u8) .no])])
 obtain ⟨e2, he2⟩ := nE (M.length)
 refine OD (.pt e2 0) M1 rfl (by rw [he2]; exact o_box rfl hM1) ?_
 have ne := neE he2 f
 have f3 := eqM hM1 (get_app f)
 have hp4 := eqP hM1 (pre_app hp)
 have f5 := nwE hM1 he2
 have lo6 := loE he2 hp
 refine OR 1 rfl <| nt <| sr (by decide) <| OD _ M1 rfl (o_fieldAddrP (fo := 0) U29 rfl ti3 (sz _) rfl) <| OD _ M1 rfl (o_loadP ag3 ti3 rfl f3 rfl rf) <| OD _ M1 rfl (o_fieldAddrP (fo := 0) U29 rfl ti3 (sz _) rfl) ?_
 refine OD _ M1 rfl (o_loadP ag3 ti3 rfl f5 rfl rf) ?_
 obtain ⟨y7, q, h⟩ := bs h
 refine OD (kI y7) M1 rfl (o_call (w_cmp_Compare_int x.Block y.Block M1 q) ⟨rf, rf, trivial⟩ rf) <| OR 1 rfl <| nt <| aw_ret ?_
 obtain rfl := sI h
 exact done_tmp rfl rf hp4
set_option maxHeartbeats 4000000 in
theorem w_slices_CompactFunc_Lapi_Item_api_Item (pa0 : Nat) (a0 : (List Api_Item)) (a1 : (Api_Item → Api_Item → Option Bool)) (ffa1 : Nat) (fsa1 fca1 : List AV) (H : Mem) {r : (List Api_Item)} (h : slices_CompactFunc_Lapi_Item_api_Item a0 a1 = some r) (fpa00 : H[pa0]? = some (.cells ((a0.map c_Api_Item).flatten.map PV.av))) (hfa1 : ∀ (z0 : Api_Item) (z1 : Api_Item) (zr : Bool), a1 z0 z1 = some zr → ∀ (zy : Ent) M, H.set pa0 zy <+: M → ACalls Try.prog ffa1 (fsa1 ++ [.ag [kI z0.Block, .sl 1 (z0.Data.map c_u8) .no], .ag [kI z1.Block, .sl 1 (z1.Data.map c_u8) .no]] ++ fca1) M (fun r' H' => r' = kB zr ∧ H' = M)) : ACalls Try.prog 88 [.hs pa0 0 a0.length a0.length 2, .fn (.func ffa1) fsa1 fca1] H (fun r' H' => r' = .hs pa0 0 r.length r.length 2 ∧ H' = H.set pa0 (.cells ((r.map c_Api_Item).flatten.map PV.av))) := by
 unfold slices_CompactFunc_Lapi_Item_api_Item at h
 refine ACalls.done (by simp) (fun hB => MBd.setO (hB)) (by rw [List.length_set]; exact .hs _ _ _ _ _ (lt_of_get fpa00)) ?_
 refine acalls_walk Try.func88 rfl cl88 (by simp [Try.ntmps88]) (fun hB => ?_)
 refine aw_reb (Reb.of (l := [(0, .hs pa0 0 a0.length a0.length 2), (1, .fn (.func ffa1) fsa1 fca1)]) (by simp [FrL, afr0])) ?_
 have fpa0 := fpa00
 have lnpa0 : a0.length = a0.length := rfl
 have hpre : (H.set pa0 (.cells ((a0.map c_Api_Item).flatten.map PV.av))) <+: H := pre_set fpa0
 refine sr (by decide) <| OR 1 rfl <| nt <| aw_seq <| sr (by decide) ?_
 refine OR 1 rfl <| OD (kI (a0.length : Int)) H rfl (o_lenH U22 rfl) <| OR 1 rfl <| nt ?_
 refine aT h rfl (fun hb h => ?_) (fun hb h => ?_)
 ·refine sr (by decide) <| OR 2 rfl <| nt <| aw_ret <| thenQ_ret ?_
  obtain rfl := sI h
  exact done_tmp rfl (.hsn lnpa0) hpre
 ·refine aw_skip <| thenQ_n <| aw_seq <| sr (by decide) <| OR 1 rfl <| nt ?_
  obtain ⟨vc, h, k⟩ := kont_some h
  refine aw_tailD (S := Unit) (G := Unit) vc (fun s g => Frm.of [(0, .hs pa0 0 a0.length a0.length 2)]) (fun s g M => (H.set pa0 (.cells ((a0.map c_Api_Item).flatten.map PV.av))) <+: M ∧ M[pa0]? = some (.cells ((a0.map c_Api_Item).flatten.map PV.av)) ∧ a0.length = a0.length) ?_ ?_
  ·refine aw_block ?_
   refine aw_loopD (S := Int) (G := Unit) (H1 := H) h (fun s g => Frm.of [(0, .hs pa0 0 a0.length a0.length 2), (1, .fn (.func ffa1) fsa1 fca1), (5, kI s)]) (fun s g M => (H.set pa0 (.cells ((a0.map c_Api_Item).flatten.map PV.av))) <+: M ∧ M[pa0]? = some (.cells ((a0.map c_Api_Item).flatten.map PV.av)) ∧ a0.length = a0.length) () ⟨hpre, fpa0, lnpa0⟩ (flr rfl) ?_
   intro t59 g1 M10 vc15 hI h k14
   obtain ⟨⟩ := g1
   obtain ⟨hp11, f12, ln13⟩ := hI
   unfold slices_CompactFunc_Lapi_Item_api_Item_L1 at h
   refine aw_seq <| sr (by decide) <| OR 2 rfl <| OD (kI (a0.length : Int)) M10 rfl (o_lenH U22 rfl) <| OR 1 rfl <| nt ?_
   refine aT h rfl (fun hb16 h => ?_) (fun hb16 h => ?_)
   ·refine aw_skip <| thenQ_n <| aw_seq <| aw_block <| aw_seq <| aw_draw mixed [0, 0, 0, 0, 1, 0, 0, 0, 0, 1, 1] (by decide) (by kernel_rfl) <| DR 3 rfl ?_
    obtain ⟨x, qx, h⟩ := bs h
    refine DD0 (.pt pa0 (t59.toNat * 2)) rfl (fun H0 => o_indexAddrO (l := a0) U22 ti29 rfl rfl ln13 qx) <| DD1 (.ag [kI x.Block, .sl 1 (x.Data.map c_u8) .no]) rfl (fun H0 hB => o_loadOA (c := c_Api_Item) (z := 2) (j := 0) (l := a0) (i := t59) (a := x) ag29 ti29 rfl (by omega) (pre_get hB f12) (fun _ => rfl) qx (by decide) rf) <| DR 3 rfl ?_
    obtain ⟨x17, qx17, h⟩ := bs h
    refine DD0 (.pt pa0 ((IntKind.wrap .i64 (t59 - 1)).toNat * 2)) rfl (fun H0 => o_indexAddrO (l := a0) U22 ti29 rfl rfl ln13 qx17) <| DD1 (.ag [kI x17.Block, .sl 1 (x17.Data.map c_u8) .no]) rfl (fun H0 hB => o_loadOA (c := c_Api_Item) (z := 2) (j := 0) (l := a0) (i := (IntKind.wrap .i64 (t59 - 1))) (a := x17) ag29 ti29 rfl (by omega) (pre_get hB f12) (fun _ => rfl) qx17 (by decide) rf) ?_
    obtain ⟨y, qy, h⟩ := bs h
    refine DD1 (kB y) rfl (fun H0 hB => o_callv rfl (hfa1 x x17 _ qy _ H0 (hp11.trans hB)) (ALe.refl _) rf) <| DRun_nil <| thenQ_n ?_
    refine aT h rfl (fun hb18 h => ?_) (fun hb18 h => ?_)
    ·refine sr (by decide) <| OR 2 rfl ?_
     obtain ⟨⟨o, k19⟩, q, h⟩ := bs h
     refine OD (.hs pa0 (o * 2) k19 (a0.length - o) 2) M10 rfl (o_sliceHO (lo' := some (.i64, t59)) (hi' := none) U22 ti29 rfl rfl rfl q) <| OR 1 rfl <| nt <| aw_seq <| sr (by decide) <| OR 1 rfl ?_
     refine nt ?_
     obtain ⟨vc26, h, k25⟩ := bs h
     refine aw_tailS (S := (Int × (List Api_Item))) (G := Unit) vc26 (fun s g => Frm.of [(0, .hs pa0 0 a0.length a0.length 2), (5, kI s.1)]) (fun s g M => (H.set pa0 (.cells ((s.2.map c_Api_Item).flatten.map PV.av))) <+: M ∧ M[pa0]? = some (.cells ((s.2.map c_Api_Item).flatten.map PV.av)) ∧ s.2.length = a0.length) ?_ ?_
     ·refine aw_block ?_
      refine aw_loopD (S := (Int × Int × (List Api_Item))) (G := Unit) (H1 := M10) h (fun s g => Frm.of [(0, .hs pa0 0 a0.length a0.length 2), (1, .fn (.func ffa1) fsa1 fca1), (5, kI s.1), (6, .hs pa0 (o * 2) k19 (a0.length - o) 2), (7, kI s.2.1)]) (fun s g M => (H.set pa0 (.cells ((s.2.2.map c_Api_Item).flatten.map PV.av))) <+: M ∧ M[pa0]? = some (.cells ((s.2.2.map c_Api_Item).flatten.map PV.av)) ∧ s.2.2.length = a0.length) () ⟨hp11, f12, ln13⟩ (flr rfl) ?_
      intro s1 g1 M40 vc45 hI h k44
      obtain ⟨t537, t738, mpa039⟩ := s1
      obtain ⟨⟩ := g1
      obtain ⟨hp41, f42, ln43⟩ := hI
      unfold slices_CompactFunc_Lapi_Item_api_Item_L2 at h
      refine aw_seq <| sr (by decide) <| OR 2 rfl <| OD (kI (k19 : Int)) M40 rfl (o_lenH U22 rfl) <| OR 1 rfl <| nt ?_
      refine aT h rfl (fun hb46 h => ?_) (fun hb46 h => ?_)
      ·refine aw_skip <| thenQ_n ?_
       obtain ⟨vc54, h, k53⟩ := bs h
       refine aw_joinS (S := (Int × (List Api_Item))) (G := Unit) vc54 (fun s g => Frm.of [(0, .hs pa0 0 a0.length a0.length 2), (1, .fn (.func ffa1) fsa1 fca1), (5, kI s.1), (6, .hs pa0 (o * 2) k19 (a0.length - o) 2), (7, kI t738)]) (fun s g M => (H.set pa0 (.cells ((s.2.map c_Api_Item).flatten.map PV.av))) <+: M ∧ M[pa0]? = some (.cells ((s.2.map c_Api_Item).flatten.map PV.av)) ∧ s.2.length = a0.length) ?_ ?_
       ·refine aw_block <| aw_seq <| aw_draw mixed [0, 0, 0, 0, 1, 0, 0, 0, 0, 1, 1, 0] (by decide) (by kernel_rfl) <| DR 3 rfl ?_
        obtain ⟨x55, qx55, h⟩ := bs h
        have hi := (idxP_some qx55).1
        refine DD0 (.pt pa0 ((o + t738.toNat) * 2)) rfl (fun H0 => o_indexAddrP (l := mpa039) (o := o) U22 ti29 rfl rfl qx55) <| DD1 (.ag [kI x55.Block, .sl 1 (x55.Data.map c_u8) .no]) rfl (fun H0 hB => o_loadOA (c := c_Api_Item) (z := 2) (j := 0) (l := mpa039) (i := ((o : Int) + t738)) (a := x55) ag29 ti29 rfl (by omega) (pre_get hB f42) (fun _ => rfl) (idxP_some qx55).2.2 (by decide) rf) <| DR 3 rfl ?_
        obtain ⟨x56, qx56, h⟩ := bs h
        have hi57 := (idxP_some qx56).1
        refine DD0 (.pt pa0 ((o + (IntKind.wrap .i64 (t738 - 1)).toNat) * 2)) rfl (fun H0 => o_indexAddrP (l := mpa039) (o := o) U22 ti29 rfl rfl qx56) <| DD1 (.ag [kI x56.Block, .sl 1 (x56.Data.map c_u8) .no]) rfl (fun H0 hB => o_loadOA (c := c_Api_Item) (z := 2) (j := 0) (l := mpa039) (i := ((o : Int) + (IntKind.wrap .i64 (t738 - 1)))) (a := x56) ag29 ti29 rfl (by omega) (pre_get hB f42) (fun _ => rfl) (idxP_some qx56).2.2 (by decide) rf) ?_
        obtain ⟨y58, qy58, h⟩ := bs h
        refine DD1 (kB y58) rfl (fun H0 hB => o_callv rfl (hfa1 x55 x56 _ qy58 _ H0 (hp41.trans hB)) (ALe.refl _) rf) <| DR 1 rfl <| DRun_nil <| thenQ_n ?_
        refine aT h rfl (fun hb59 h => ?_) (fun hb59 h => ?_)
        ·refine sr (by decide) <| OR 4 rfl ?_
         have hi60 := (idxP_some qx55).1
         refine OD (.pt pa0 ((o + t738.toNat) * 2)) M40 rfl (o_indexAddrP (l := mpa039) (o := o) U22 ti29 rfl rfl qx55) <| OD (.ag [kI x55.Block, .sl 1 (x55.Data.map c_u8) .no]) M40 rfl (o_loadOA (c := c_Api_Item) (z := 2) (j := 0) (l := mpa039) (i := ((o : Int) + t738)) (a := x55) ag29 ti29 rfl (by omega) f42 (fun _ => rfl) (idxP_some qx55).2.2 (by decide) rf) ?_
         obtain ⟨x61, qx61, h⟩ := bs h
         refine OD (.pt pa0 (t537.toNat * 2)) M40 rfl (o_indexAddrO (l := mpa039) U22 ti29 rfl rfl ln43 qx61) ?_
         obtain ⟨m, qm, h⟩ := bs h
         obtain ⟨M62, hM62⟩ := nM (M40.set pa0 (.cells ((m.map c_Api_Item).flatten.map PV.av)))
         refine OD (undefA) M62 rfl (o_storeOA (c := c_Api_Item) (z := 2) (l := mpa039) (i := t537) (a := x61) (a' := x55) ti29 rfl (by omega) (sz _) rfl rfl rfl f42 (fun _ => rfl) qx61 qm hM62) ?_
         have ln63 : m.length = a0.length := (updL_len qm).trans ln43
         have f64 := eqM hM62 (get_self f42)
         have hp65 : (H.set pa0 (.cells ((m.map c_Api_Item).flatten.map PV.av))) <+: M62 := by rw [hM62]; have q := pre_lo (i := pa0) (x := (.cells ((m.map c_Api_Item).flatten.map PV.av))) hp41 (by simp only [List.length_set]; exact (lt_of_get fpa00)); simpa using q
         refine nt <| aw_region (by decide) <| OR 3 rfl <| OpsS_nil <| blockQ_n ?_
         obtain rfl := sI h
         exact thenQ_n ⟨(), M62, ⟨hp65, f64, ln63⟩, flr rfl⟩
        ·refine aw_skip <| blockQ_n ?_
         obtain rfl := sI h
         exact thenQ_n ⟨(), M40, ⟨hp41, f42, ln43⟩, flr rfl⟩
       ·obtain ⟨t547, mpa048⟩ := vc54
        rintro ⟨⟩ M49 ⟨hp50, f51, ln52⟩
        have h := k53
        refine aw_region (by decide) <| OR 3 rfl <| OpsS_nil ?_
        exact thenQ_n ⟨(t547, (IntKind.wrap .i64 (t738 + 1)), mpa048), (), M49, (Option.some.inj h).symm, ⟨hp50, f51, ln52⟩, flr rfl⟩
      ·refine aw_exit <| thenQ_exit <| thenQ_exit ?_
       have h := early_ret h k44
       refine blockQ_exit ?_
       obtain rfl := sI h
       exact thenQ_n ⟨(), M40, ⟨hp41, f42, ln43⟩, flr rfl⟩
     ·obtain ⟨t520, mpa0⟩ := vc26
      rintro ⟨⟩ M21 ⟨hp22, f23, ln24⟩
      have h := k25
      refine thenQ_n <| sr (by decide) <| OR 2 rfl ?_
      obtain ⟨⟨o66, k67⟩, q68, h⟩ := bs h
      refine OD (.hs pa0 (o66 * 2) k67 (a0.length - o66) 2) M21 rfl (o_sliceHO (lo' := some (.i64, t520)) (hi' := none) U22 ti29 rfl rfl rfl q68) ?_
      obtain ⟨M69, hM69⟩ := nM (M21.set pa0 (.cells (((fillL mpa0 o66 k67 (Api_Item.mk 0 ([] : (List Int)))).map c_Api_Item).flatten.map PV.av)))
      refine OD (.tp []) M69 rfl (o_clearO2 (l := mpa0) (a := (Api_Item.mk 0 ([] : (List Int)))) (c := c_Api_Item) U22 ti29 rfl (by decide) ⟨.refl _, .nil _, trivial⟩ (fun _ => rfl) rfl f23 (by have q := slcH_le q68; have q2 : mpa0.length = a0.length := ln24; first | omega | (simp only; omega)) hM69) ?_
      have ln70 : (fillL mpa0 o66 k67 (Api_Item.mk 0 ([] : (List Int)))).length = a0.length := (fillL_len (by have q := slcH_le q68; have q2 : mpa0.length = a0.length := ln24; first | omega | (simp only; omega))).trans ln24
      have f71 := eqM hM69 (get_self f23)
      have hp72 : (H.set pa0 (.cells (((fillL mpa0 o66 k67 (Api_Item.mk 0 ([] : (List Int)))).map c_Api_Item).flatten.map PV.av))) <+: M69 := by rw [hM69]; have q := pre_lo (i := pa0) (x := (.cells (((fillL mpa0 o66 k67 (Api_Item.mk 0 ([] : (List Int)))).map c_Api_Item).flatten.map PV.av))) hp22 (by simp only [List.length_set]; exact (lt_of_get fpa00)); simpa using q
      refine nt <| sr (by decide) <| OR 2 rfl ?_
      obtain ⟨⟨o73, k74⟩, q75, h⟩ := bs h
      obtain rfl : o73 = 0 := (slcH_some q75).2.2.2.1
      refine OD (.hs pa0 0 k74 a0.length 2) M69 rfl (o_sliceHO (o := 0) (lo' := none) (hi' := some (.i64, t520)) U22 ti29 rfl rfl rfl q75) <| OR 1 rfl <| nt <| aw_ret <| blockQ_ret <| thenQ_ret <| thenQ_ret ?_
      have h := early_ret h k14
      refine blockQ_ret <| thenQ_ret ?_
      have h := early_some h k
      refine thenQ_ret ?_
      obtain rfl := sI h
      have hcut : k74 ≤ a0.length ∧ 0 = 0 := by have q := slcH_some q75; have q2 := slcH_le q75; omega
      exact done_cut (n := a0.length) (k := k74) (o := 0) rfl f71 rfl ln70 hcut hp72 (lt_of_get fpa00)
    ·refine aw_skip <| blockQ_n <| thenQ_n <| aw_region (by decide) <| OR 3 rfl <| OpsS_nil ?_
     exact thenQ_n ⟨(IntKind.wrap .i64 (t59 + 1)), (), M10, (Option.some.inj h).symm, ⟨hp11, f12, ln13⟩, flr rfl⟩
   ·refine aw_exit <| thenQ_exit <| thenQ_exit ?_
    have h := early_ret h k14
    refine blockQ_exit ?_
    exact thenQ_n ⟨(), (), M10, (Option.some.inj h).symm, ⟨hp11, f12, ln13⟩, flr rfl⟩
  ·rintro ⟨⟩ ⟨⟩ M rfl ⟨hp, f, ln⟩
   have h := kont_go k
   refine thenQ_n <| sr (by decide) <| OR 2 rfl <| nt <| aw_ret ?_
   obtain rfl := sI h
   exact done_tmp rfl (.hsn ln) hp
set_option maxHeartbeats 4000000 in
theorem w_chain_Merge_2 (x : Api_Item) (y : Api_Item) (H : Mem) {r : Bool} (h : chain_Merge_2 x y = some r) : ACalls Try.prog 89 [.ag [kI x.Block, .sl 1 (x.Data.map c_u8) .no], .ag [kI y.Block, .sl 1 (y.Data.map c_u8) .no]] H (fun r' H' => r' = kB r ∧ H' = H) := by
 unfold chain_Merge_2 at h
 refine ACalls.done0 rfl ?_
 refine acalls_walk Try.func89 rfl cl89 (by simp [Try.ntmps89]) (fun hB => ?_)
 refine aw_reb (Reb.of (l := [(0, .ag [kI x.Block, .sl 1 (x.Data.map c_u8) .no]), (1, .ag [kI y.Block, .sl 1 (y.Data.map c_u8) .no])]) (by simp [FrL, afr0])) ?_
 have hpre : H <+: H := List.prefix_refl _
 refine sr (by decide) ?_
 obtain ⟨M, hM⟩ := nM (H ++ [(.cells [kI x.Block, .sl 1 (x.Data.map c_u8) .no])])
 obtain ⟨e, he⟩ := nE (H.length)
 refine OD (.pt e 0) M rfl (by rw [he]; exact o_box rfl hM) ?_
 have hp := eqP hM (pre_app hpre)
 have f := nwE hM he
 have lo := loE he hpre
 obtain ⟨M1, hM1⟩ := nM (M ++ [(.cells [kI y.Block, .sl 1 (y.Data.map c_u8) .no])])
 obtain ⟨e2, he2⟩ := nE (M.length)
 refine OD (.pt e2 0) M1 rfl (by rw [he2]; exact o_box rfl hM1) ?_
 have ne := neE he2 f
 have f3 := eqM hM1 (get_app f)
 have hp4 := eqP hM1 (pre_app hp)
 have f5 := nwE hM1 he2
 have lo6 := loE he2 hp
 refine OR 1 rfl <| nt <| sr (by decide) <| OD _ M1 rfl (o_fieldAddrP (fo := 0) U29 rfl ti3 (sz _) rfl) <| OD _ M1 rfl (o_loadP ag3 ti3 rfl f3 rfl rf) <| OD _ M1 rfl (o_fieldAddrP (fo := 0) U29 rfl ti3 (sz _) rfl) ?_
 refine OD _ M1 rfl (o_loadP ag3 ti3 rfl f5 rfl rf) <| OR 2 rfl <| nt <| aw_ret ?_
 obtain rfl := sI h
 exact done_tmp rfl rf hp4
set_option maxHeartbeats 4000000 in
theorem w_slices_Clone_Lbyte_byte (vs : (List Int)) (H : Mem) {r : (List Int)} (h : slices_Clone_Lbyte_byte vs = some r) : ACalls Try.prog 96 [.sl 1 (vs.map c_u8) .no] H (fun r' H' => r' = .sl 1 (r.map c_u8) .no ∧ H' = H) := by
 unfold slices_Clone_Lbyte_byte at h
 refine ACalls.done0 rfl ?_
 refine acalls_walk Try.func96 rfl cl96 (by simp [Try.ntmps96]) (fun hB => ?_)
 refine aw_reb (Reb.of (l := [(0, .sl 1 (vs.map c_u8) .no)]) (by simp [FrL, afr0])) ?_
 have hpre : H <+: H := List.prefix_refl _
 refine sr (by decide) <| OR 1 rfl <| nt <| aw_seq <| sr (by decide) ?_
 refine OR 1 rfl ?_
 refine OpsS_nilT rfl U25 rfl rfl (fun nb hnb => ?_)
 refine nt ?_
 refine aw_test (b := nb) rfl (fun hb => ?_) (fun hb => ?_)
 ·have hr := List.map_eq_nil_iff.1 (hnb hb)
  subst hr
  have h : some ([] : (List Int)) = some r := by simpa [app] using h
  refine sr (by decide) <| OR 1 rfl <| nt <| aw_ret <| thenQ_ret ?_
  obtain rfl := sI h
  exact done_tmp rfl (.nil _) hpre
 ·refine aw_skip <| thenQ_n <| sr (by decide) <| OD (.sl 1 (([] : (List Int)).map c_u8) .ex) H rfl (o_buildSlice0 (cs := []) (pcs := []) U25 ti5 rfl (by decide) rfl rfl rf) <| OR 1 rfl ?_
  obtain ⟨m, qm, h⟩ := bs h
  obtain ⟨M, hM⟩ := nM (H ++ [.tok])
  obtain ⟨e, he⟩ := nE (H.length)
  refine OD (.sl 1 (m.map c_u8) (.tk e)) M rfl (by rw [he]; exact o_app1 (c := c_u8) (.inl rfl) (src_sl rfl) U25 ti5 rfl (by simp [sliceStr, U25]) qm hM) ?_
  have hp := eqP hM (pre_app hpre)
  have f := nwE hM he
  have lo := loE he hpre
  refine OR 1 rfl <| nt <| aw_ret ?_
  obtain rfl := sI h
  exact done_tmp rfl (.no _ _ _) hp
set_option maxHeartbeats 4000000 in
theorem w_slices_Clone_Lapi_Item_api_Item_o (vs : (List Api_Item)) (H : Mem) {r : (List Api_Item)} (h : slices_Clone_Lapi_Item_api_Item vs = some r) : ACalls Try.prog 95 [.sl 2 (vs.map c_Api_Item) .no] H (fun r' H' => r' = .hs H.length 0 r.length r.length 2 ∧ H' = H ++ [.cells ((r.map c_Api_Item).flatten.map PV.av)]) := by
 unfold slices_Clone_Lapi_Item_api_Item at h
 refine ACalls.done (by simp) (fun hB => MBd.newO hB) (Bd_newO _ _) ?_
 refine acalls_walk Try.func95 rfl cl95 (by simp [Try.ntmps95]) (fun hB => ?_)
 refine aw_reb (Reb.of (l := [(0, .sl 2 (vs.map c_Api_Item) .no)]) (by simp [FrL, afr0])) ?_
 have hpre : H <+: H := List.prefix_refl _
 refine sr (by decide) <| OR 1 rfl <| nt <| aw_seq <| sr (by decide) ?_
 refine OR 1 rfl ?_
 refine OpsS_nilT rfl U22 rfl rfl (fun nb hnb => ?_)
 refine nt ?_
 refine aw_test (b := nb) rfl (fun hb => ?_) (fun hb => ?_)
 ·have hr := List.map_eq_nil_iff.1 (hnb hb)
  subst hr
  have h : some ([] : (List Api_Item)) = some r := by simpa [app] using h
  refine sr (by decide) <| OR 1 rfl <| nt <| aw_ret <| thenQ_ret ?_
  obtain rfl := sI h
  exact done_reb rfl (Reb.none1 (t := 2) (z := 2) hB hpre rfl)
 ·refine aw_skip <| thenQ_n <| sr (by decide) <| OD (.sl 2 (([] : (List Api_Item)).map c_Api_Item) .ex) H rfl (o_buildSlice0 (cs := []) (pcs := []) U22 ti29 rfl (by decide) rfl rfl rf) <| OR 1 rfl ?_
  obtain ⟨m, qm, h⟩ := bs h
  obtain ⟨M, hM⟩ := nM (H ++ [(.cells ((m.map c_Api_Item).flatten.map PV.av))])
  obtain ⟨e, he⟩ := nE (H.length)
  refine OD (.hs e 0 m.length m.length 2) M rfl (by rw [he]; exact o_app2 (c := c_Api_Item) (.inl rfl) (src_sl rfl) U22 ti29 rfl (by simp [sliceStr, U22]) qm hM) ?_
  have hp := eqP hM (pre_app hpre)
  have f := nwE hM he
  have lo := loE he hpre
  have ln : m.length = m.length := rfl
  refine OR 1 rfl <| nt <| aw_ret ?_
  obtain rfl := sI h
  exact done_reb rfl (Reb.ownM (t := 2) hB hp f lo rfl)
set_option maxHeartbeats 4000000 in
theorem w_chain_copied (l : (List Api_Item)) (H : Mem) {r : (List Api_Item)} (h : chain_copied l = some r) : ACalls Try.prog 83 [.sl 2 (l.map c_Api_Item) .no] H (fun r' H' => r' = .sl 2 (r.map c_Api_Item) .no ∧ H' = H) := by
 unfold chain_copied at h
 refine ACalls.done0 rfl ?_
 refine acalls_walk Try.func83 rfl cl83 (by simp [Try.ntmps83]) (fun hB => ?_)
 refine aw_reb (Reb.of (l := [(0, .sl 2 (l.map c_Api_Item) .no)]) (by simp [FrL, afr0])) ?_
 have hpre : H <+: H := List.prefix_refl _
 refine sr (by decide) <| OR 1 rfl <| nt <| sr (by decide) <| OR 1 rfl ?_
 obtain ⟨y, q, h⟩ := bs h
 obtain ⟨M, hM⟩ := nM (H ++ [(.cells ((y.map c_Api_Item).flatten.map PV.av))])
 obtain ⟨e, he⟩ := nE (H.length)
 refine OD (.hs e 0 y.length y.length 2) M rfl (by rw [he, hM]; exact o_call (w_slices_Clone_Lapi_Item_api_Item_o l H q) ⟨rf, trivial⟩ rf) ?_
 have hp := eqP hM (pre_app hpre)
 have f := nwE hM he
 have lo := loE he hpre
 have ln : y.length = y.length := rfl
 refine OR 1 rfl <| nt <| aw_seq <| sr (by decide) <| OR 1 rfl <| OD (kI (y.length : Int)) M rfl (o_lenH U22 rfl) ?_
 refine OR 1 rfl <| nt ?_
 obtain ⟨me, h, k⟩ := bs h
 refine aw_tailS (S := (List Api_Item)) (G := Unit) me (fun s g => Frm.of [(3, .hs e 0 y.length y.length 2)]) (fun s g M => H <+: M ∧ M[e]? = some (.cells ((s.map c_Api_Item).flatten.map PV.av)) ∧ s.length = y.length) ?_ ?_
 ·refine aw_block ?_
  refine aw_loopD (S := (Int × (List Api_Item))) (G := Unit) (H1 := M) h (fun s g => Frm.of [(3, .hs e 0 y.length y.length 2), (8, kI (y.length : Int)), (9, kI s.1)]) (fun s g M => H <+: M ∧ M[e]? = some (.cells ((s.2.map c_Api_Item).flatten.map PV.av)) ∧ s.2.length = y.length) () ⟨hp, f, ln⟩ (flr rfl) ?_
  intro s1 g1 M16 vc hI h k20
  obtain ⟨t914, me15⟩ := s1
  obtain ⟨⟩ := g1
  obtain ⟨hp17, f18, ln19⟩ := hI
  unfold chain_copied_L1 at h
  refine sr (by decide) <| OR 1 rfl <| nt <| aw_seq ?_
  refine aT h rfl (fun hb h => ?_) (fun hb h => ?_)
  ·refine aw_skip <| thenQ_n <| aw_seq <| aw_block <| sr (by decide) <| OR 2 rfl <| OpsS_nil ?_
   refine thenQ_n <| aw_region (by decide) <| OR 4 rfl ?_
   obtain ⟨x, qx, h⟩ := bs h
   refine OD (.pt e (t914.toNat * 2)) M16 rfl (o_indexAddrO (l := me15) U22 ti29 rfl rfl ln19 qx) <| OD _ M16 rfl (o_fieldAddrP (fo := 1) U29 rfl ti25 (sz _) rfl) <| OD (.sl 1 (x.Data.map c_u8) .no) M16 rfl (o_loadO (c := c_Api_Item) (z := 2) (j := 1) (l := me15) (i := t914) (a := x) (p := .sl 1 (x.Data.map c_u8)) ag25 ti25 rfl (by omega) f18 (fun _ => rfl) qx rfl rf) ?_
   obtain ⟨y21, q22, h⟩ := bs h
   refine OD (.sl 1 (y21.map c_u8) .no) M16 rfl (o_call (w_slices_Clone_Lbyte_byte x.Data M16 q22) ⟨rf, trivial⟩ rf) <| OD (.pt e (t914.toNat * 2)) M16 rfl (o_indexAddrO (l := me15) U22 ti29 rfl rfl ln19 qx) <| OD _ M16 rfl (o_fieldAddrP (fo := 1) U29 rfl ti25 (sz _) rfl) ?_
   obtain ⟨m, qm, h⟩ := bs h
   obtain ⟨M23, hM23⟩ := nM (M16.set e (.cells ((m.map c_Api_Item).flatten.map PV.av)))
   refine OD (undefA) M23 rfl (o_storeO (c := c_Api_Item) (z := 2) (l := me15) (i := t914) (a := x) (a' := (Api_Item.mk x.Block y21)) (j := 1) (p := .sl 1 (y21.map c_u8)) (v := .sl 1 (y21.map c_u8) .no) ti25 rfl (by omega) rfl f18 (fun _ => rfl) qx (by decide) rfl rfl rfl rf rfl qm hM23) ?_
   have ln24 : m.length = y.length := (updL_len qm).trans ln19
   have f25 := eqM hM23 (get_self f18)
   have hp26 := eqP hM23 (pre_hi hp17 lo)
   refine OpsS_nil <| blockQ_n <| thenQ_n <| aw_region (by decide) <| OR 2 rfl <| OpsS_nil ?_
   exact thenQ_n ⟨((IntKind.wrap .i64 (t914 + 1)), m), (), M23, (Option.some.inj h).symm, ⟨hp26, f25, ln24⟩, flr rfl⟩
  ·refine aw_exit <| thenQ_exit <| thenQ_exit ?_
   have h := early_ret h k20
   refine blockQ_exit ?_
   obtain rfl := sI h
   exact thenQ_n ⟨(), M16, ⟨hp17, f18, ln19⟩, flr rfl⟩
 ·rintro ⟨⟩ M1 ⟨hp2, f3, ln4⟩
  have h := k
  refine thenQ_n <| sr (by decide) <| OR 2 rfl <| nt ?_
  obtain ⟨M27, hM27⟩ := nM (M1.set e .dead)
  refine aw_reb (Reb.frz (c := c_Api_Item) (z := 2) (l := me) (fl := [(2, .sl 2 (me.map c_Api_Item) .no)]) (fun _ => rfl) (fun _ => rfl) f3 ln4 ⟨.inr ⟨⟨_, rfl⟩, rfl⟩, trivial⟩) ?_
  rw [← hM27]
  have hp28 := eqP hM27 (pre_hi hp2 lo)
  refine aw_ret ?_
  obtain rfl := sI h
  exact done_tmp rfl rf hp28
set_option maxHeartbeats 4000000 in
theorem w_slices_Grow_Lapi_Item_api_Item_nil_o (n : Int) (H : Mem) {r : (List Api_Item)} (h : slices_Grow_Lapi_Item_api_Item_nil n = some r) : ACalls Try.prog 117 [.sc (.slice none 0 0), kI n] H (fun r' H' => r' = .hs H.length 0 r.length r.length 2 ∧ H' = H ++ [.cells ((r.map c_Api_Item).flatten.map PV.av)]) := by
 unfold slices_Grow_Lapi_Item_api_Item_nil at h
 refine ACalls.done (by simp) (fun hB => MBd.newO hB) (Bd_newO _ _) ?_
 refine acalls_walk Try.func117 rfl cl117 (by simp [Try.ntmps117]) (fun hB => ?_)
 refine aw_reb (Reb.of (l := [(0, .sc (.slice none 0 0)), (1, kI n)]) (by simp [FrL, afr0])) ?_
 have hpre : H <+: H := List.prefix_refl _
 refine sr (by decide) <| OR 1 rfl <| nt <| aw_seq <| sr (by decide) ?_
 refine OR 2 rfl <| nt ?_
 refine aT h rfl (fun hb h => ?_) (fun hb h => ?_)
 ·refine aw_region (by decide) ?_
  cases h
 ·refine aw_skip <| thenQ_n <| aw_seq <| sr (by decide) <| OR 2 rfl <| OD (kI 0) H rfl (o_capN U22 rfl) <| OR 1 rfl ?_
  refine OD (kI 0) H rfl (o_lenN U22 rfl) <| OR 3 rfl <| nt <| sr (by decide) <| OR 2 rfl <| OpsS_nil ?_
  refine thenQ_n ?_
  refine aT h rfl (fun hb1 h => ?_) (fun hb1 h => ?_)
  ·refine aw_region (by decide) <| OR 2 rfl <| OD (kI 0) H rfl (o_capN U22 rfl) ?_
   obtain ⟨m, qm, h⟩ := bs h
   refine OD (.sc (.slice none 0 0)) H rfl (o_sliceNil (lo' := none) (hi' := some (.i64, 0)) (mx' := none) U22 ti29 rfl rfl rfl rfl qm (fun h => by cases h)) ?_
   refine OR 1 rfl ?_
   obtain ⟨u, qu, h⟩ := bs h
   have hz : decide ((IntKind.wrap .i64 (n - (IntKind.wrap .i64 (0 - 0)))) > 0) = true := by assumption
   have hz2 : 0 < (IntKind.wrap .i64 (n - (IntKind.wrap .i64 (0 - 0)))).toNat := by have q := of_decide_eq_true hz; omega
   obtain ⟨M, hM⟩ := nM (H ++ [(.cells ((([] : (List Api_Item)).map c_Api_Item).flatten.map PV.av))])
   obtain ⟨e, he⟩ := nE (H.length)
   refine OD (.hs e 0 (IntKind.wrap .i64 (n - (IntKind.wrap .i64 (0 - 0)))).toNat (IntKind.wrap .i64 (n - (IntKind.wrap .i64 (0 - 0)))).toNat 2) M rfl (by rw [he]; exact o_appZ (q := u) U22 U3 ti29 rfl (by decide) rfl rfl hz qu hM) ?_
   have hp := eqP hM (pre_app hpre)
   have f := nwE hM he
   have lo := loE he hpre
   have ln : ([] : (List Api_Item)).length = 0 := rfl
   refine OR 1 rfl <| OD (kI 0) M rfl (o_lenN U22 rfl) <| OD (.hs e 0 0 (IntKind.wrap .i64 (n - (IntKind.wrap .i64 (0 - 0)))).toNat 2) M rfl (o_sliceH0 U22 ti29 rfl rfl hz2) <| OR 1 rfl <| nt <| sr (by decide) ?_
   refine OR 2 rfl <| nt <| aw_ret ?_
   obtain rfl := sI h
   exact done_reb rfl (Reb.trans (Reb.fl (l := [(4, .hs e 0 0 0 2)]) ⟨AVLe.hs0 _ _ _, trivial⟩) (Reb.ownM (t := 4) (ps := []) hB hp f lo rfl))
  ·refine aw_skip <| thenQ_n <| sr (by decide) <| OR 2 rfl <| nt <| aw_ret ?_
   obtain rfl := sI h
   exact done_reb rfl (Reb.none1 (t := 4) (z := 2) hB hpre rfl)
set_option maxHeartbeats 4000000 in
theorem w_slices_Concat_Lapi_Item_api_Item_o (slices : (List (List Api_Item))) (H : Mem) {r : (List Api_Item)} (h : slices_Concat_Lapi_Item_api_Item slices = some r) : ACalls Try.prog 84 [.sl 1 (slices.map (c_L 2 c_Api_Item)) .no] H (fun r' H' => r' = .hs H.length 0 r.length r.length 2 ∧ H' = H ++ [.cells ((r.map c_Api_Item).flatten.map PV.av)]) := by
 unfold slices_Concat_Lapi_Item_api_Item at h
 refine ACalls.done (by simp) (fun hB => MBd.newO hB) (Bd_newO _ _) ?_
 refine acalls_walk Try.func84 rfl cl84 (by simp [Try.ntmps84]) (fun hB => ?_)
 refine aw_reb (Reb.of (l := [(0, .sl 1 (slices.map (c_L 2 c_Api_Item)) .no)]) (by simp [FrL, afr0])) ?_
 have hpre : H <+: H := List.prefix_refl _
 refine sr (by decide) <| OR 1 rfl <| nt <| sr (by decide) <| OR 1 rfl ?_
 refine nt <| aw_seq <| sr (by decide) <| OR 1 rfl <| OD (kI (slices.length : Int)) H rfl (o_lenL U159 rfl) <| OR 1 rfl ?_
 refine nt ?_
 obtain ⟨size, h, k⟩ := bs h
 refine aw_tailS (S := Int) (G := Unit) size (fun s g => Frm.of [(0, .sl 1 (slices.map (c_L 2 c_Api_Item)) .no), (3, kI s)]) (fun s g M => H <+: M) ?_ ?_
 ·refine aw_block ?_
  refine aw_loopD (S := (Int × Int)) (G := Unit) (H1 := H) h (fun s g => Frm.of [(0, .sl 1 (slices.map (c_L 2 c_Api_Item)) .no), (3, kI s.1), (9, .sl 1 (slices.map (c_L 2 c_Api_Item)) .no), (10, kI (slices.length : Int)), (11, kI s.2)]) (fun s g M => H <+: M) () hpre (flr rfl) ?_
  intro s1 g1 M8 vc hI h k10
  obtain ⟨size6, t117⟩ := s1
  obtain ⟨⟩ := g1
  have hp9 := hI
  unfold slices_Concat_Lapi_Item_api_Item_L1 at h
  refine sr (by decide) <| OR 1 rfl <| nt <| aw_seq ?_
  refine aT h rfl (fun hb h => ?_) (fun hb h => ?_)
  ·refine aw_skip <| thenQ_n <| aw_seq <| aw_block <| sr (by decide) ?_
   obtain ⟨x, qx, h⟩ := bs h
   refine OD _ M8 rfl (o_indexAddr (c := (c_L 2 c_Api_Item)) U159 ti22 rfl rfl qx) <| OD (.sl 2 (x.map c_Api_Item) .no) M8 rfl (o_loadE ag22 ti22 rfl rf) <| OR 1 rfl <| nt <| sr (by decide) <| OR 2 rfl ?_
   refine OD (kI (x.length : Int)) M8 rfl (o_lenL U22 rfl) <| OR 2 rfl <| nt <| sr (by decide) <| OR 2 rfl <| OpsS_nil ?_
   refine thenQ_n ?_
   refine aT h rfl (fun hb11 h => ?_) (fun hb11 h => ?_)
   ·refine aw_region (by decide) ?_
    cases h
   ·refine aw_skip <| blockQ_n <| thenQ_n <| aw_region (by decide) <| OR 2 rfl <| OpsS_nil ?_
    exact thenQ_n ⟨((IntKind.wrap .i64 (size6 + (x.length : Int))), (IntKind.wrap .i64 (t117 + 1))), (), M8, (Option.some.inj h).symm, hp9, flr rfl⟩
  ·refine aw_exit <| thenQ_exit <| thenQ_exit ?_
   have h := early_ret h k10
   refine blockQ_exit ?_
   obtain rfl := sI h
   exact thenQ_n ⟨(), M8, hp9, flr rfl⟩
 ·rintro ⟨⟩ M hp
  have h := k
  refine thenQ_n <| sr (by decide) <| OR 1 rfl ?_
  obtain ⟨y, q, h⟩ := bs h
  obtain ⟨M12, hM12⟩ := nM (M ++ [(.cells ((y.map c_Api_Item).flatten.map PV.av))])
  obtain ⟨e, he⟩ := nE (M.length)
  refine OD (.hs e 0 y.length y.length 2) M12 rfl (by rw [he, hM12]; exact o_call (w_slices_Grow_Lapi_Item_api_Item_nil_o size M q) ⟨.refl _, rf, trivial⟩ rf) ?_
  have hp13 := eqP hM12 (pre_app hp)
  have f := nwE hM12 he
  have lo := loE he hp
  have ln : y.length = y.length := rfl
  refine OR 1 rfl <| nt <| aw_seq <| sr (by decide) <| OR 1 rfl <| OD (kI (slices.length : Int)) M12 rfl (o_lenL U159 rfl) ?_
  refine OR 1 rfl <| nt ?_
  obtain ⟨newslice, h, k19⟩ := bs h
  refine aw_tailS (S := (List Api_Item)) (G := Nat) newslice (fun s g => Frm.of [(6, .hs g 0 s.length s.length 2)]) (fun s g M => H <+: M ∧ M[g]? = some (.cells ((s.map c_Api_Item).flatten.map PV.av)) ∧ s.length = s.length ∧ H.length ≤ g) ?_ ?_
  ·refine aw_block ?_
   refine aw_loopD (S := ((List Api_Item) × Int)) (G := Nat) (H1 := M12) h (fun s g => Frm.of [(6, .hs g 0 s.1.length s.1.length 2), (25, .sl 1 (slices.map (c_L 2 c_Api_Item)) .no), (26, kI (slices.length : Int)), (27, kI s.2)]) (fun s g M => H <+: M ∧ M[g]? = some (.cells ((s.1.map c_Api_Item).flatten.map PV.av)) ∧ s.1.length = s.1.length ∧ H.length ≤ g) e ⟨hp13, f, rfl, lo⟩ (flr rfl) ?_
   intro s1 gnewslice32 M34 vc40 hI h k39
   obtain ⟨newslice31, t2733⟩ := s1
   obtain ⟨hp35, f36, ln38, lo37⟩ := hI
   unfold slices_Concat_Lapi_Item_api_Item_L2 at h
   refine sr (by decide) <| OR 1 rfl <| nt <| aw_seq ?_
   refine aT h rfl (fun hb41 h => ?_) (fun hb41 h => ?_)
   ·refine aw_skip <| thenQ_n <| aw_seq <| aw_block <| sr (by decide) ?_
    obtain ⟨x42, qx42, h⟩ := bs h
    refine OD _ M34 rfl (o_indexAddr (c := (c_L 2 c_Api_Item)) U159 ti22 rfl rfl qx42) <| OD (.sl 2 (x42.map c_Api_Item) .no) M34 rfl (o_loadE ag22 ti22 rfl rf) <| OR 1 rfl <| nt <| aw_region (by decide) <| OR 2 rfl ?_
    obtain ⟨m, qm, h⟩ := bs h
    have ha : app 32 ((newslice31.drop 0).take newslice31.length) x42 = some m := by rw [List.drop_zero, List.take_of_length_le (by have q := ln38; omega)]; exact qm
    obtain ⟨e43, h0e43⟩ := nE (M34.length)
    obtain ⟨M44, hM44⟩ := nM (M34.set gnewslice32 .dead)
    obtain ⟨M45, hM45⟩ := nM (M44 ++ [(.cells ((m.map c_Api_Item).flatten.map PV.av))])
    refine OD (.hs e43 0 m.length m.length 2) M45 rfl (by rw [h0e43]; exact o_appH (c := c_Api_Item) (z := 2) (o := 0) (l2 := x42) (fun _ => rfl) (fun _ => rfl) rfl f36 (by have q2 : newslice31.length = newslice31.length := ln38; first | omega | (simp only; omega)) (srcA_sl rfl) U22 ti29 rfl (by simp [sliceStr, U22]) ha (by rw [hM45, hM44])) ?_
    have he43 : e43 = M44.length := by rw [h0e43, hM44, List.length_set]
    have hp46 := eqP hM44 (pre_hi hp35 lo37)
    have hp47 := eqP hM45 (pre_app hp46)
    have f48 := nwE hM45 he43
    have lo49 := loE he43 hp46
    have ln50 : m.length = m.length := rfl
    refine OR 1 rfl <| OpsS_nil <| blockQ_n <| thenQ_n <| aw_region (by decide) <| OR 2 rfl <| OpsS_nil ?_
    exact thenQ_n ⟨(m, (IntKind.wrap .i64 (t2733 + 1))), e43, M45, (Option.some.inj h).symm, ⟨hp47, f48, rfl, lo49⟩, flr rfl⟩
   ·refine aw_exit <| thenQ_exit <| thenQ_exit ?_
    have h := early_ret h k39
    refine blockQ_exit ?_
    obtain rfl := sI h
    exact thenQ_n ⟨gnewslice32, M34, ⟨hp35, f36, rfl, lo37⟩, flr rfl⟩
  ·rintro gnewslice M14 ⟨hp15, f16, ln18, lo17⟩
   have h := k19
   refine thenQ_n <| sr (by decide) <| OR 2 rfl <| nt <| aw_ret ?_
   obtain rfl := sI h
   exact done_reb rfl (Reb.ownM (t := 2) hB hp15 f16 lo17 rfl)
set_option maxHeartbeats 4000000 in
theorem w_chain_Merge (a : Api_Stream) (b : Api_Stream) (H : Mem) {r : (Api_Stream × Int)} (h : chain_Merge a b = some r) : ACalls Try.prog 42 [.ag (k_Api_Stream a), .ag (k_Api_Stream b)] H (fun r' H' => r' = .tp [.ag (k_Api_Stream r.1), kI r.2] ∧ H' = H) := by
 unfold chain_Merge at h
 refine ACalls.done0 rfl ?_
 refine acalls_walk Try.func42 rfl cl42 (by simp [Try.ntmps42]) (fun hB => ?_)
 refine aw_reb (Reb.of (l := [(0, .ag (k_Api_Stream a)), (1, .ag (k_Api_Stream b))]) (by simp [FrL, afr0])) ?_
 have hpre : H <+: H := List.prefix_refl _
 refine sr (by decide) ?_
 obtain ⟨M, hM⟩ := nM (H ++ [(.cells (k_Api_Stream a))])
 obtain ⟨e, he⟩ := nE (H.length)
 refine OD (.pt e 0) M rfl (by rw [he]; exact o_box rfl hM) ?_
 have hp := eqP hM (pre_app hpre)
 have f := nwE hM he
 have lo := loE he hpre
 obtain ⟨M1, hM1⟩ := nM (M ++ [(.cells (k_Api_Stream b))])
 obtain ⟨e2, he2⟩ := nE (M.length)
 refine OD (.pt e2 0) M1 rfl (by rw [he2]; exact o_box rfl hM1) ?_
 have ne := neE he2 f
 have f3 := eqM hM1 (get_app f)
 have hp4 := eqP hM1 (pre_app hp)
 have f5 := nwE hM1 he2
 have lo6 := loE he2 hp
 obtain ⟨M7, hM7⟩ := nM (M1 ++ [(.cells z_Api_Stream)])
 obtain ⟨e8, he8⟩ := nE (M1.length)
 refine OD (.pt e8 0) M7 rfl (by rw [he8]; exact o_alloc ti24 hM7) ?_
 have ne9 := neE he8 f3
 have ne10 := neE he8 f5
 have f11 := eqM hM7 (get_app f3)
 have f12 := eqM hM7 (get_app f5)
 have hp13 := eqP hM7 (pre_app hp4)
 have f14 := nwE hM7 he8
 have lo15 := loE he8 hp4
 refine OR 1 rfl <| nt <| aw_seq <| aw_block ?_
 obtain ⟨t7, h, k⟩ := bs h
 refine aw_joinS (S := Bool) (G := Unit) t7 (fun s g => Frm.of [(2, .pt e 0), (3, .pt e2 0), (4, .pt e8 0), (7, kB s)]) (fun s g M => H <+: M ∧ M[e]? = some (.cells (k_Api_Stream a)) ∧ M[e2]? = some (.cells (k_Api_Stream b)) ∧ M[e8]? = some (.cells z_Api_Stream)) ?_ ?_
 ·refine aw_region (by decide) <| OD (.ag (k_Api_Stream a)) M7 rfl (o_loadPA ag24 ti24 rfl f11 (Nat.le_of_ble_eq_true rfl) rf) ?_
  obtain ⟨y, q, h⟩ := bs h
  refine OD (kB y) M7 rfl (o_call (w_stream_Right a M7 q) ⟨rf, trivial⟩ rf) <| OR 1 rfl ?_
  refine oT h rfl (o_move rf) (fun hg h => ?_) (fun hg h => ?_)
  ·refine OR 5 rfl <| OpsS_nil ?_
   obtain rfl := sI h
   exact thenQ_n ⟨(), M7, ⟨hp13, f11, f12, f14⟩, flr rfl⟩
  ·refine OD (.ag (k_Api_Stream b)) M7 rfl (o_loadPA ag24 ti24 rfl f12 (Nat.le_of_ble_eq_true rfl) rf) ?_
   obtain ⟨y21, q22, h⟩ := bs h
   refine OD (kB y21) M7 rfl (o_call (w_stream_Right b M7 q22) ⟨rf, trivial⟩ rf) <| OR 3 rfl <| OpsS_nil ?_
   obtain rfl := sI h
   exact thenQ_n ⟨(), M7, ⟨hp13, f11, f12, f14⟩, flr rfl⟩
 ·rintro ⟨⟩ M16 ⟨hp17, f18, f19, f20⟩
  have h := k
  refine aT h rfl (fun hb h => ?_) (fun hb h => ?_)
  ·refine sr (by decide) <| OD (.ag z_Api_Stream) M16 rfl (o_build (pl := pl24) (cs := z_Api_Stream) ti24 U24 (fp24 _ U24) (fa24 _ U24) rfl rf) ?_
   obtain ⟨M23, hM23⟩ := nM (M16.set e8 (.cells z_Api_Stream))
   refine OD (undefA) M23 rfl (o_store (cs' := z_Api_Stream) ti24 rfl rfl f20 (sz _) rfl rfl rfl (Nat.le_of_ble_eq_true rfl) rfl hM23) ?_
   have f24 := eqM hM23 (get_ne ne9 f18)
   have f25 := eqM hM23 (get_ne ne10 f19)
   have f26 := eqM hM23 (get_self f20)
   have hp27 := eqP hM23 (pre_hi hp17 lo15)
   refine OR 1 rfl <| nt <| aw_ret <| blockQ_ret <| thenQ_ret ?_
   obtain rfl := sI h
   exact done_list (avs := [.ag z_Api_Stream, kI 23]) rfl (by simp) (ar_cellA (r := .ag z_Api_Stream) ag24 ti24 rfl f26 (Nat.le_of_ble_eq_true rfl) rfl (ar_tmp rfl ar_nil)) (.tup ⟨(.agg ⟨rf, rf, rf, rf, (.nil _), trivial⟩), rf, trivial⟩) hp27
  ·refine sr (by decide) <| OD (.ag (k_Api_Stream a)) M16 rfl (o_loadPA ag24 ti24 rfl f18 (Nat.le_of_ble_eq_true rfl) rf) <| OD (.ag (k_Api_Stream b)) M16 rfl (o_loadPA ag24 ti24 rfl f19 (Nat.le_of_ble_eq_true rfl) rf) ?_
   obtain ⟨y28, q29, h⟩ := bs h
   refine OD (kB y28) M16 rfl (o_call (w_chain_Follows a b M16 q29) ⟨rf, rf, trivial⟩ rf) <| OR 2 rfl <| nt ?_
   refine aT h rfl (fun hb30 h => ?_) (fun hb30 h => ?_)
   ·refine sr (by decide) <| OD (.ag z_Api_Stream) M16 rfl (o_build (pl := pl24) (cs := z_Api_Stream) ti24 U24 (fp24 _ U24) (fa24 _ U24) rfl rf) ?_
    obtain ⟨M31, hM31⟩ := nM (M16.set e8 (.cells z_Api_Stream))
    refine OD (undefA) M31 rfl (o_store (cs' := z_Api_Stream) ti24 rfl rfl f20 (sz _) rfl rfl rfl (Nat.le_of_ble_eq_true rfl) rfl hM31) ?_
    have f32 := eqM hM31 (get_ne ne9 f18)
    have f33 := eqM hM31 (get_ne ne10 f19)
    have f34 := eqM hM31 (get_self f20)
    have hp35 := eqP hM31 (pre_hi hp17 lo15)
    refine OR 1 rfl <| nt <| aw_ret <| blockQ_ret <| thenQ_ret ?_
    obtain rfl := sI h
    exact done_list (avs := [.ag z_Api_Stream, kI 38]) rfl (by simp) (ar_cellA (r := .ag z_Api_Stream) ag24 ti24 rfl f34 (Nat.le_of_ble_eq_true rfl) rfl (ar_tmp rfl ar_nil)) (.tup ⟨(.agg ⟨rf, rf, rf, rf, (.nil _), trivial⟩), rf, trivial⟩) hp35
   ·refine aw_skip <| blockQ_n <| thenQ_n <| sr (by decide) <| OD _ M16 rfl (o_fieldAddrP (fo := 4) U24 rfl ti22 (sz _) rfl) <| OD _ M16 rfl (o_loadP ag22 ti22 rfl f19 rfl rf) <| OD _ M16 rfl (o_fieldAddrP (fo := 4) U24 rfl ti22 (sz _) rfl) ?_
    refine OD _ M16 rfl (o_loadP ag22 ti22 rfl f18 rfl rf) <| OD (.sl 1 (([b.Items, a.Items] : (List (List Api_Item))).map (c_L 2 c_Api_Item)) .ex) M16 rfl (o_buildSlice0 (cs := [.sl 2 (b.Items.map c_Api_Item) .no, .sl 2 (a.Items.map c_Api_Item) .no]) (pcs := [.sl 2 (b.Items.map c_Api_Item), .sl 2 (a.Items.map c_Api_Item)]) U159 ti22 rfl (by decide) rfl rfl rf) ?_
    obtain ⟨y36, q37, h⟩ := bs h
    obtain ⟨M38, hM38⟩ := nM (M16 ++ [(.cells ((y36.map c_Api_Item).flatten.map PV.av))])
    obtain ⟨e39, he39⟩ := nE (M16.length)
    refine OD (.hs e39 0 y36.length y36.length 2) M38 rfl (by rw [he39, hM38]; exact o_call (w_slices_Concat_Lapi_Item_api_Item_o ([b.Items, a.Items] : (List (List Api_Item))) M16 q37) ⟨(.no _ _ _), trivial⟩ rf) ?_
    have ne40 := neE he39 f18
    have ne41 := neE he39 f19
    have ne42 := neE he39 f20
    have f43 := eqM hM38 (get_app f18)
    have f44 := eqM hM38 (get_app f19)
    have f45 := eqM hM38 (get_app f20)
    have hp46 := eqP hM38 (pre_app hp17)
    have f47 := nwE hM38 he39
    have lo48 := loE he39 hp17
    have ln : y36.length = y36.length := rfl
    refine OR 1 rfl <| nt <| sr (by decide) <| OR 1 rfl ?_
    obtain ⟨y49, q50, h⟩ := bs h
    obtain ⟨⟨⟩, hl, h⟩ := bs h
    obtain ⟨M51, hM51⟩ := nM (M38.set e39 (.cells ((y49.map c_Api_Item).flatten.map PV.av)))
    refine OD (.tp []) M51 rfl (by rw [hM51]; exact o_call (w_slices_SortStableFunc_Lapi_Item_api_Item e39 y36 (fun z0 z1 => chain_Merge_1 z0 z1) 86 [] [] M38 q50 f47 (fun z0 z1 zr zh zy M hM => w_chain_Merge_1 z0 z1 M zh)) ⟨.refl _, .refl _, trivial⟩ rf) ?_
    have ln52 : y49.length = y36.length := (chkl_some hl)
    have f53 := eqM hM51 (get_ne ne40 f43)
    have f54 := eqM hM51 (get_ne ne41 f44)
    have f55 := eqM hM51 (get_ne ne42 f45)
    have f56 := eqM hM51 (get_self f47)
    have hp57 := eqP hM51 (pre_hi hp46 lo48)
    refine nt <| sr (by decide) <| OR 1 rfl ?_
    obtain ⟨y58, q59, h⟩ := bs h
    obtain ⟨M60, hM60⟩ := nM (M51.set e39 (.cells ((y58.map c_Api_Item).flatten.map PV.av)))
    refine OD (.hs e39 0 y58.length y58.length 2) M60 rfl (by rw [hM60]; exact o_call (w_slices_CompactFunc_Lapi_Item_api_Item e39 y49 (fun z0 z1 => chain_Merge_2 z0 z1) 89 [] [] M51 q59 f56 (fun z0 z1 zr zh zy M hM => w_chain_Merge_2 z0 z1 M zh)) ⟨.hsn ln52, .refl _, trivial⟩ rf) ?_
    have ln61 : y58.length = y58.length := rfl
    have f62 := eqM hM60 (get_ne ne40 f53)
    have f63 := eqM hM60 (get_ne ne41 f54)
    have f64 := eqM hM60 (get_ne ne42 f55)
    have f65 := eqM hM60 (get_self f56)
    have hp66 := eqP hM60 (pre_hi hp57 lo48)
    refine OR 1 rfl <| nt <| aw_seq ?_
    obtain ⟨M67, hM67⟩ := nM (M60.set e39 .dead)
    refine aw_reb (Reb.frz (c := c_Api_Item) (z := 2) (l := y58) (fl := [(2, .pt e 0), (3, .pt e2 0), (4, .pt e8 0), (6, .sl 2 (y58.map c_Api_Item) .no)]) (fun _ => rfl) (fun _ => rfl) f65 ln61 ⟨.inl rf, .inl rf, .inl rf, .inr ⟨⟨_, rfl⟩, rfl⟩, trivial⟩) ?_
    rw [← hM67]
    have f68 := eqM hM67 (get_ne ne40 f62)
    have f69 := eqM hM67 (get_ne ne41 f63)
    have f70 := eqM hM67 (get_ne ne42 f64)
    have hp71 := eqP hM67 (pre_hi hp66 lo48)
    refine aw_drawJ mixed [0, 0, 0, 0, 0, 0, 0, 0, 0, 0, 0, 2, 0] (by decide) (by kernel_rfl) (fun H0 => H0[e]? = some (.cells (k_Api_Stream a)) ∧ H0[e2]? = some (.cells (k_Api_Stream b))) ⟨f68, f69⟩ <| DD0 _ rfl (fun H0 => o_fieldAddrP (fo := 0) U24 rfl ti3 (sz _) rfl) <| DD4 _ rfl (fun H0 hJ => o_loadP ag3 ti3 rfl hJ.1 rfl rf) <| DD0 _ rfl (fun H0 => o_fieldAddrP (fo := 1) U24 rfl ti3 (sz _) rfl) <| DD4 _ rfl (fun H0 hJ => o_loadP ag3 ti3 rfl hJ.1 rfl rf) <| DD0 _ rfl (fun H0 => o_fieldAddrP (fo := 2) U24 rfl ti2 (sz _) rfl) <| DD4 _ rfl (fun H0 hJ => o_loadP ag2 ti2 rfl hJ.1 rfl rf) <| DD0 _ rfl (fun H0 => o_fieldAddrP (fo := 3) U24 rfl ti2 (sz _) rfl) ?_
    refine DD4 _ rfl (fun H0 hJ => o_loadP ag2 ti2 rfl hJ.2 rfl rf) <| DR 1 rfl ?_
    obtain ⟨y72, q73, h⟩ := bs h
    refine DD0 (.sl 2 (y72.map c_Api_Item) .no) rfl (fun H0 => o_call (w_chain_copied y58 H0 q73) ⟨rf, trivial⟩ rf) <| DD0 (.ag [kI a.Blocks, kI a.Size, kI a.From, kI b.To, .sl 2 (y72.map c_Api_Item) .no]) rfl (fun H0 => o_build (pl := pl24) (cs := [kI a.Blocks, kI a.Size, kI a.From, kI b.To, .sl 2 (y72.map c_Api_Item) .no]) ti24 U24 (fp24 _ U24) (fa24 _ U24) rfl rf) ?_
    obtain ⟨M74, hM74⟩ := nM (M67.set e8 (.cells [kI a.Blocks, kI a.Size, kI a.From, kI b.To, .sl 2 (y72.map c_Api_Item) .no]))
    have f75 := eqM hM74 (get_ne ne9 f68)
    have f76 := eqM hM74 (get_ne ne10 f69)
    have f77 := eqM hM74 (get_self f70)
    have hp78 := eqP hM74 (pre_hi hp71 lo15)
    refine DD2 (undefA) M74 rfl (o_store (cs' := [kI a.Blocks, kI a.Size, kI a.From, kI b.To, .sl 2 (y72.map c_Api_Item) .no]) ti24 rfl rfl f70 (sz _) rfl rfl rfl (Nat.le_of_ble_eq_true rfl) rfl hM74) ⟨f75, f76⟩ <| DR 1 rfl <| DRun_nil <| thenQ_n <| aw_ret ?_
    obtain rfl := sI h
    exact done_list (avs := [.ag [kI a.Blocks, kI a.Size, kI a.From, kI b.To, .sl 2 (y72.map c_Api_Item) .no], kI 0]) rfl (by simp) (ar_cellA (r := .ag [kI a.Blocks, kI a.Size, kI a.From, kI b.To, .sl 2 (y72.map c_Api_Item) .no]) ag24 ti24 rfl f77 (Nat.le_of_ble_eq_true rfl) rfl (ar_tmp rfl ar_nil)) (.tup ⟨rf, rf, trivial⟩) hp78
set_option maxHeartbeats 4000000 in
theorem w_slices_IndexFunc_Lapi_Stream_api_Stream (vs : (List Api_Stream)) (f : (Api_Stream → Option Bool)) (fff : Nat) (fsf fcf : List AV) (H : Mem) {r : Int} (h : slices_IndexFunc_Lapi_Stream_api_Stream vs f = some r) (hff : ∀ (z0 : Api_Stream) (zr : Bool), f z0 = some zr → ∀ M, H <+: M → ACalls Try.prog fff (fsf ++ [.ag (k_Api_Stream z0)] ++ fcf) M (fun r' H' => r' = kB zr ∧ H' = M)) : ACalls Try.prog 116 [.sl 5 (vs.map c_Api_Stream) .no, .fn (.func fff) fsf fcf] H (fun r' H' => r' = kI r ∧ H' = H) := by
 unfold slices_IndexFunc_Lapi_Stream_api_Stream at h
 refine ACalls.done0 rfl ?_
 refine acalls_walk Try.func116 rfl cl116 (by simp [Try.ntmps116]) (fun hB => ?_)
 refine aw_reb (Reb.of (l := [(0, .sl 5 (vs.map c_Api_Stream) .no), (1, .fn (.func fff) fsf fcf)]) (by simp [FrL, afr0])) ?_
 have hpre : H <+: H := List.prefix_refl _
 refine sr (by decide) <| OR 1 rfl <| nt <| aw_seq <| sr (by decide) ?_
 refine OR 1 rfl <| OD (kI (vs.length : Int)) H rfl (o_lenL U39 rfl) <| OR 1 rfl <| nt ?_
 obtain ⟨vc, h, k⟩ := kont_some h
 refine aw_tailD (S := Unit) (G := Unit) vc (fun s g => Frm.of []) (fun s g M => H <+: M) ?_ ?_
 ·refine aw_block ?_
  refine aw_loopD (S := Int) (G := Unit) (H1 := H) h (fun s g => Frm.of [(0, .sl 5 (vs.map c_Api_Stream) .no), (1, .fn (.func fff) fsf fcf), (7, kI (vs.length : Int)), (8, kI s)]) (fun s g M => H <+: M) () hpre (flr rfl) ?_
  intro t85 g1 M6 vc9 hI h k8
  obtain ⟨⟩ := g1
  have hp7 := hI
  unfold slices_IndexFunc_Lapi_Stream_api_Stream_L1 at h
  refine sr (by decide) <| OR 1 rfl <| nt <| aw_seq ?_
  refine aT h rfl (fun hb h => ?_) (fun hb h => ?_)
  ·refine aw_skip <| thenQ_n <| aw_seq <| aw_block <| sr (by decide) <| OR 2 rfl <| OpsS_nil ?_
   refine thenQ_n <| sr (by decide) <| OR 3 rfl ?_
   obtain ⟨x, qx, h⟩ := bs h
   refine OD _ M6 rfl (o_indexAddr (c := c_Api_Stream) U39 ti24 rfl rfl qx) <| OD (.ag (k_Api_Stream x)) M6 rfl (o_loadEA ag24 ti24 rfl (Nat.le_of_ble_eq_true rfl) rf) ?_
   obtain ⟨y, qy, h⟩ := bs h
   refine OD (kB y) M6 rfl (o_callv rfl (hff x _ qy M6 hp7) (ALe.refl _) rf) <| nt ?_
   refine aT h rfl (fun hb10 h => ?_) (fun hb10 h => ?_)
   ·refine sr (by decide) <| OR 2 rfl <| nt <| aw_ret <| blockQ_ret <| thenQ_ret ?_
    refine thenQ_ret ?_
    have h := early_ret h k8
    refine blockQ_ret <| thenQ_ret ?_
    have h := early_some h k
    refine thenQ_ret ?_
    obtain rfl := sI h
    exact done_tmp rfl rf hp7
   ·refine aw_skip <| blockQ_n <| thenQ_n <| aw_region (by decide) <| OR 2 rfl <| OpsS_nil ?_
    exact thenQ_n ⟨(w64 (t85 + 1)), (), M6, (Option.some.inj h).symm, hp7, flr rfl⟩
  ·refine aw_exit <| thenQ_exit <| thenQ_exit ?_
   have h := early_ret h k8
   refine blockQ_exit ?_
   exact thenQ_n ⟨(), (), M6, (Option.some.inj h).symm, hp7, Reb.fl trivial⟩
 ·rintro ⟨⟩ ⟨⟩ M rfl hp
  have h := kont_go k
  refine thenQ_n <| sr (by decide) <| OR 1 rfl <| nt <| aw_ret ?_
  obtain rfl := sI h
  exact done_tmp rfl rf hp
set_option maxHeartbeats 4000000 in
theorem w_slices_ContainsFunc_Lapi_Stream_api_Stream (vs : (List Api_Stream)) (f : (Api_Stream → Option Bool)) (fff : Nat) (fsf fcf : List AV) (H : Mem) {r : Bool} (h : slices_ContainsFunc_Lapi_Stream_api_Stream vs f = some r) (hff : ∀ (z0 : Api_Stream) (zr : Bool), f z0 = some zr → ∀ M, H <+: M → ACalls Try.prog fff (fsf ++ [.ag (k_Api_Stream z0)] ++ fcf) M (fun r' H' => r' = kB zr ∧ H' = M)) : ACalls Try.prog 81 [.sl 5 (vs.map c_Api_Stream) .no, .fn (.func fff) fsf fcf] H (fun r' H' => r' = kB r ∧ H' = H) := by
 unfold slices_ContainsFunc_Lapi_Stream_api_Stream at h
 refine ACalls.done0 rfl ?_
 refine acalls_walk Try.func81 rfl cl81 (by simp [Try.ntmps81]) (fun hB => ?_)
 refine aw_reb (Reb.of (l := [(0, .sl 5 (vs.map c_Api_Stream) .no), (1, .fn (.func fff) fsf fcf)]) (by simp [FrL, afr0])) ?_
 have hpre : H <+: H := List.prefix_refl _
 refine sr (by decide) <| OR 1 rfl <| nt <| sr (by decide) <| OR 2 rfl ?_
 obtain ⟨y, q, h⟩ := bs h
 refine OD (kI y) H rfl (o_call (w_slices_IndexFunc_Lapi_Stream_api_Stream vs f fff fsf fcf H q (fun z0 zr zh M hM => hff z0 zr zh M (hpre.trans hM))) ⟨rf, .refl _, trivial⟩ rf) <| OR 2 rfl <| nt <| aw_ret ?_
 obtain rfl := sI h
 exact done_tmp rfl rf hpre
set_option maxHeartbeats 4000000 in
theorem w_chain_All_1 (vs : Api_Stream) (H : Mem) {r : Bool} (h : chain_All_1 vs = some r) : ACalls Try.prog 82 [.ag (k_Api_Stream vs)] H (fun r' H' => r' = kB r ∧ H' = H) := by
 unfold chain_All_1 at h
 refine ACalls.done0 rfl ?_
 refine acalls_walk Try.func82 rfl cl82 (by simp [Try.ntmps82]) (fun hB => ?_)
 refine aw_reb (Reb.of (l := [(0, .ag (k_Api_Stream vs))]) (by simp [FrL, afr0])) ?_
 have hpre : H <+: H := List.prefix_refl _
 refine sr (by decide) ?_
 obtain ⟨M, hM⟩ := nM (H ++ [(.cells (k_Api_Stream vs))])
 obtain ⟨e, he⟩ := nE (H.length)
 refine OD (.pt e 0) M rfl (by rw [he]; exact o_box rfl hM) ?_
 have hp := eqP hM (pre_app hpre)
 have f := nwE hM he
 have lo := loE he hpre
 refine OR 1 rfl <| nt <| sr (by decide) <| OD (.ag (k_Api_Stream vs)) M rfl (o_loadPA ag24 ti24 rfl f (Nat.le_of_ble_eq_true rfl) rf) ?_
 obtain ⟨y, q, h⟩ := bs h
 refine OD (kB y) M rfl (o_call (w_stream_Right vs M q) ⟨rf, trivial⟩ rf) <| OR 2 rfl <| nt <| aw_ret ?_
 obtain rfl := sI h
 exact done_tmp rfl rf hp
set_option maxHeartbeats 4000000 in
theorem w_chain_full (vs : Api_Stream) (H : Mem) {r : Bool} (h : chain_full vs = some r) : ACalls Try.prog 90 [.ag (k_Api_Stream vs)] H (fun r' H' => r' = kB r ∧ H' = H) := by
 unfold chain_full at h
 refine ACalls.done0 rfl ?_
 refine acalls_walk Try.func90 rfl cl90 (by simp [Try.ntmps90]) (fun hB => ?_)
 refine aw_reb (Reb.of (l := [(0, .ag (k_Api_Stream vs))]) (by simp [FrL, afr0])) ?_
 have hpre : H <+: H := List.prefix_refl _
 refine sr (by decide) ?_
 obtain ⟨M, hM⟩ := nM (H ++ [(.cells (k_Api_Stream vs))])
 obtain ⟨e, he⟩ := nE (H.length)
 refine OD (.pt e 0) M rfl (by rw [he]; exact o_box rfl hM) ?_
 have hp := eqP hM (pre_app hpre)
 have f := nwE hM he
 have lo := loE he hpre
 refine OR 1 rfl <| nt ?_
 obtain ⟨t2, h, k⟩ := bs h
 refine aw_joinS (S := Bool) (G := Unit) t2 (fun s g => Frm.of [(2, kB s)]) (fun s g M => H <+: M ∧ M[e]? = some (.cells (k_Api_Stream vs))) ?_ ?_
 ·refine aw_region (by decide) <| OD (.ag (k_Api_Stream vs)) M rfl (o_loadPA ag24 ti24 rfl f (Nat.le_of_ble_eq_true rfl) rf) ?_
  obtain ⟨y, q, h⟩ := bs h
  refine OD (kB y) M rfl (o_call (w_stream_Right vs M q) ⟨rf, trivial⟩ rf) ?_
  refine oT h rfl (o_move rf) (fun hg h => ?_) (fun hg h => ?_)
  ·refine OD _ M rfl (o_fieldAddrP (fo := 2) U24 rfl ti2 (sz _) rfl) <| OD _ M rfl (o_loadP ag2 ti2 rfl f rfl rf) <| OR 3 rfl <| OpsS_nil ?_
   obtain rfl := sI h
   exact thenQ_n ⟨(), M, ⟨hp, f⟩, flr rfl⟩
  ·refine OR 5 rfl <| OpsS_nil ?_
   obtain rfl := sI h
   exact thenQ_n ⟨(), M, ⟨hp, f⟩, flr rfl⟩
 ·rintro ⟨⟩ M1 ⟨hp2, f3⟩
  have h := k
  refine aw_ret ?_
  obtain rfl := sI h
  exact done_tmp rfl rf hp2
set_option maxHeartbeats 4000000 in
theorem w_chain_follow_R (nn : Nat) : ∀ (l : (List Api_Stream)) (H : Mem) {r : Bool} (h : chain_follow_R nn l = some r), ACalls Try.prog 91 [.sl 5 (l.map c_Api_Stream) .no] H (fun r' H' => r' = kB r ∧ H' = H) := by
 induction nn with
 | zero => intro l H r h ; simp [chain_follow_R] at h
 | succ nn ih =>
 intro l H r h
 rw [chain_follow_R] at h
 refine ACalls.done0 rfl ?_
 refine acalls_walk Try.func91 rfl cl91 (by simp [Try.ntmps91]) (fun hB => ?_)
 refine aw_reb (Reb.of (l := [(0, .sl 5 (l.map c_Api_Stream) .no)]) (by simp [FrL, afr0])) ?_
 have hpre : H <+: H := List.prefix_refl _
 refine sr (by decide) <| OR 1 rfl <| nt ?_
 obtain ⟨t2, h, k⟩ := bs h
 refine aw_joinS (S := Bool) (G := Unit) t2 (fun s g => Frm.of [(2, kB s)]) (fun s g M => H <+: M) ?_ ?_
 ·refine aw_draw mixed [0, 0, 0, 0, 0, 0, 0, 0, 0, 0, 0, 0, 0, 0, 0, 0, 0, 0] (by decide) (by kernel_rfl) <| DR 1 rfl <| DD0 (kI (l.length : Int)) rfl (fun H0 => o_lenL U39 rfl) <| DR 1 rfl ?_
  refine dT0 h rfl (fun H0 => o_move rf) (fun hg h => ?_) (fun hg h => ?_)
  ·refine DR 14 rfl <| DRun_nil ?_
   obtain rfl := sI h
   exact thenQ_n ⟨(), H, hpre, flr rfl⟩
  ·refine DR 1 rfl ?_
   obtain ⟨x, qx, h⟩ := bs h
   refine DD0 _ rfl (fun H0 => o_indexAddr (c := c_Api_Stream) U39 ti24 rfl rfl qx) <| DD0 (.ag (k_Api_Stream x)) rfl (fun H0 => o_loadEA ag24 ti24 rfl (Nat.le_of_ble_eq_true rfl) rf) <| DR 1 rfl ?_
   obtain ⟨x1, qx1, h⟩ := bs h
   refine DD0 _ rfl (fun H0 => o_indexAddr (c := c_Api_Stream) U39 ti24 rfl rfl qx1) <| DD0 (.ag (k_Api_Stream x1)) rfl (fun H0 => o_loadEA ag24 ti24 rfl (Nat.le_of_ble_eq_true rfl) rf) ?_
   obtain ⟨y, q, h⟩ := bs h
   refine DD0 (kB y) rfl (fun H0 => o_call (w_chain_Follows x x1 H0 q) ⟨rf, rf, trivial⟩ rf) ?_
   refine dT0 h rfl (fun H0 => o_move rf) (fun hg2 h => ?_) (fun hg2 h => ?_)
   ·refine DR 1 rfl ?_
    obtain ⟨m, qm, h⟩ := bs h
    refine DD0 (.sl 5 (m.map c_Api_Stream) .no) rfl (fun H0 => o_slice (c := c_Api_Stream) (k := .no) (lo' := some (.i64, 1)) (hi' := none) (mx' := none) U39 ti24 rfl rfl rfl rfl qm (fun h => by cases h)) ?_
    obtain ⟨y3, q4, h⟩ := bs h
    refine DD0 (kB y3) rfl (fun H0 => o_call (ih m H0 q4) ⟨rf, trivial⟩ rf) <| DR 3 rfl <| DRun_nil ?_
    obtain rfl := sI h
    exact thenQ_n ⟨(), H, hpre, flr rfl⟩
   ·refine DR 6 rfl <| DRun_nil ?_
    obtain rfl := sI h
    exact thenQ_n ⟨(), H, hpre, flr rfl⟩
 ·rintro ⟨⟩ M hp
  have h := k
  refine aw_ret ?_
  obtain rfl := sI h
  exact done_tmp rfl rf hp
theorem w_chain_follow (l : (List Api_Stream)) (H : Mem) {r : Bool} (h : chain_follow l = some r) : ACalls Try.prog 91 [.sl 5 (l.map c_Api_Stream) .no] H (fun r' H' => r' = kB r ∧ H' = H) := w_chain_follow_R fuel l H h
set_option maxHeartbeats 4000000 in
theorem w_chain_Right (l : (List Api_Stream)) (H : Mem) {r : Bool} (h : chain_Right l = some r) : ACalls Try.prog 45 [.sl 5 (l.map c_Api_Stream) .no] H (fun r' H' => r' = kB r ∧ H' = H) := by
 unfold chain_Right at h
 refine ACalls.done0 rfl ?_
 refine acalls_walk Try.func45 rfl cl45 (by simp [Try.ntmps45]) (fun hB => ?_)
 refine aw_reb (Reb.of (l := [(0, .sl 5 (l.map c_Api_Stream) .no)]) (by simp [FrL, afr0])) ?_
 have hpre : H <+: H := List.prefix_refl _
 refine sr (by decide) <| OR 1 rfl <| nt <| aw_seq ?_
 obtain ⟨t12, h, k⟩ := bs h
 refine aw_joinS (S := Bool) (G := Unit) t12 (fun s g => Frm.of [(0, .sl 5 (l.map c_Api_Stream) .no), (12, kB s)]) (fun s g M => H <+: M) ?_ ?_
 ·refine aw_region (by decide) <| OR 1 rfl <| OD (kI (l.length : Int)) H rfl (o_lenL U39 rfl) <| OR 1 rfl ?_
  refine oT h rfl (o_move rf) (fun hg h => ?_) (fun hg h => ?_)
  ·refine OR 6 rfl <| OpsS_nil ?_
   obtain rfl := sI h
   exact thenQ_n ⟨(), H, hpre, flr rfl⟩
  ·refine OR 1 rfl ?_
   obtain ⟨x, qx, h⟩ := bs h
   refine OD _ H rfl (o_indexAddr (c := c_Api_Stream) U39 ti24 rfl rfl qx) <| OD (.ag (k_Api_Stream x)) H rfl (o_loadEA ag24 ti24 rfl (Nat.le_of_ble_eq_true rfl) rf) ?_
   obtain ⟨y, q, h⟩ := bs h
   refine OD (kB y) H rfl (o_call (w_chain_full x H q) ⟨rf, trivial⟩ rf) <| OR 2 rfl <| OpsS_nil ?_
   obtain rfl := sI h
   exact thenQ_n ⟨(), H, hpre, flr rfl⟩
 ·rintro ⟨⟩ M hp
  have h := k
  refine aT h rfl (fun hb h => ?_) (fun hb h => ?_)
  ·refine sr (by decide) <| OR 1 rfl <| nt <| aw_ret <| thenQ_ret ?_
   obtain rfl := sI h
   exact done_tmp rfl rf hp
  ·refine aw_skip <| thenQ_n ?_
   obtain ⟨t2, h, k3⟩ := bs h
   refine aw_joinS (S := Bool) (G := Unit) t2 (fun s g => Frm.of [(2, kB s)]) (fun s g M => H <+: M) ?_ ?_
   ·refine aw_region (by decide) <| OR 1 rfl <| OD (kI (l.length : Int)) M rfl (o_lenL U39 rfl) <| OR 1 rfl ?_
    refine oT h rfl (o_move rf) (fun hg4 h => ?_) (fun hg4 h => ?_)
    ·refine OR 4 rfl <| OpsS_nil ?_
     obtain rfl := sI h
     exact thenQ_n ⟨(), M, hp, flr rfl⟩
    ·refine OR 1 rfl ?_
     obtain ⟨y5, q6, h⟩ := bs h
     refine OD (kB y5) M rfl (o_call (w_chain_follow l M q6) ⟨rf, trivial⟩ rf) <| OR 2 rfl <| OpsS_nil ?_
     obtain rfl := sI h
     exact thenQ_n ⟨(), M, hp, flr rfl⟩
   ·rintro ⟨⟩ M1 hp2
    have h := k3
    refine aw_ret ?_
    obtain rfl := sI h
    exact done_tmp rfl rf hp2
set_option maxHeartbeats 4000000 in
theorem w_chain_All (l : (List Api_Stream)) (H : Mem) {r : (Api_Stream × Int)} (h : chain_All l = some r) : ACalls Try.prog 41 [.sl 5 (l.map c_Api_Stream) .no] H (fun r' H' => r' = .tp [.ag (k_Api_Stream r.1), kI r.2] ∧ H' = H) := by
 unfold chain_All at h
 refine ACalls.done0 rfl ?_
 refine acalls_walk Try.func41 rfl cl41 (by simp [Try.ntmps41]) (fun hB => ?_)
 refine aw_reb (Reb.of (l := [(0, .sl 5 (l.map c_Api_Stream) .no)]) (by simp [FrL, afr0])) ?_
 have hpre : H <+: H := List.prefix_refl _
 refine sr (by decide) ?_
 obtain ⟨M, hM⟩ := nM (H ++ [(.cells z_Api_Stream)])
 obtain ⟨e, he⟩ := nE (H.length)
 refine OD (.pt e 0) M rfl (by rw [he]; exact o_alloc ti24 hM) ?_
 have hp := eqP hM (pre_app hpre)
 have f := nwE hM he
 have lo := loE he hpre
 refine OR 1 rfl <| nt <| aw_seq <| aw_block <| sr (by decide) <| OR 1 rfl ?_
 obtain ⟨y, q, h⟩ := bs h
 refine OD (kB y) M rfl (o_call (w_slices_ContainsFunc_Lapi_Stream_api_Stream l (fun z0 => chain_All_1 z0) 82 [] [] M q (fun z0 zr zh M hM => w_chain_All_1 z0 M zh)) ⟨rf, .refl _, trivial⟩ rf) <| OR 1 rfl <| nt ?_
 refine aT h rfl (fun hb h => ?_) (fun hb h => ?_)
 ·refine sr (by decide) <| OD (.ag z_Api_Stream) M rfl (o_build (pl := pl24) (cs := z_Api_Stream) ti24 U24 (fp24 _ U24) (fa24 _ U24) rfl rf) ?_
  obtain ⟨M1, hM1⟩ := nM (M.set e (.cells z_Api_Stream))
  refine OD (undefA) M1 rfl (o_store (cs' := z_Api_Stream) ti24 rfl rfl f (sz _) rfl rfl rfl (Nat.le_of_ble_eq_true rfl) rfl hM1) ?_
  have f2 := eqM hM1 (get_self f)
  have hp3 := eqP hM1 (pre_hi hp lo)
  refine OR 1 rfl <| nt <| aw_ret <| blockQ_ret <| thenQ_ret ?_
  obtain rfl := sI h
  exact done_list (avs := [.ag z_Api_Stream, kI 23]) rfl (by simp) (ar_cellA (r := .ag z_Api_Stream) ag24 ti24 rfl f2 (Nat.le_of_ble_eq_true rfl) rfl (ar_tmp rfl ar_nil)) (.tup ⟨(.agg ⟨rf, rf, rf, rf, (.nil _), trivial⟩), rf, trivial⟩) hp3
 ·refine sr (by decide) <| OR 1 rfl ?_
  obtain ⟨y4, q5, h⟩ := bs h
  refine OD (kB y4) M rfl (o_call (w_chain_Right l M q5) ⟨rf, trivial⟩ rf) <| OR 2 rfl <| nt ?_
  refine aT h rfl (fun hb6 h => ?_) (fun hb6 h => ?_)
  ·refine sr (by decide) <| OD (.ag z_Api_Stream) M rfl (o_build (pl := pl24) (cs := z_Api_Stream) ti24 U24 (fp24 _ U24) (fa24 _ U24) rfl rf) ?_
   obtain ⟨M7, hM7⟩ := nM (M.set e (.cells z_Api_Stream))
   refine OD (undefA) M7 rfl (o_store (cs' := z_Api_Stream) ti24 rfl rfl f (sz _) rfl rfl rfl (Nat.le_of_ble_eq_true rfl) rfl hM7) ?_
   have f8 := eqM hM7 (get_self f)
   have hp9 := eqP hM7 (pre_hi hp lo)
   refine OR 1 rfl <| nt <| aw_ret <| blockQ_ret <| thenQ_ret ?_
   obtain rfl := sI h
   exact done_list (avs := [.ag z_Api_Stream, kI 38]) rfl (by simp) (ar_cellA (r := .ag z_Api_Stream) ag24 ti24 rfl f8 (Nat.le_of_ble_eq_true rfl) rfl (ar_tmp rfl ar_nil)) (.tup ⟨(.agg ⟨rf, rf, rf, rf, (.nil _), trivial⟩), rf, trivial⟩) hp9
  ·refine aw_skip <| blockQ_n <| thenQ_n <| sr (by decide) <| OR 1 rfl ?_
   obtain ⟨x, qx, h⟩ := bs h
   refine OD _ M rfl (o_indexAddr (c := c_Api_Stream) U39 ti24 rfl rfl qx) <| OD (.ag (k_Api_Stream x)) M rfl (o_loadEA ag24 ti24 rfl (Nat.le_of_ble_eq_true rfl) rf) ?_
   obtain ⟨M10, hM10⟩ := nM (M ++ [(.cells z_Api_Stream)])
   obtain ⟨e11, he11⟩ := nE (M.length)
   refine OD (.pt e11 0) M10 rfl (by rw [he11]; exact o_alloc ti24 hM10) ?_
   have ne := neE he11 f
   have f12 := eqM hM10 (get_app f)
   have hp13 := eqP hM10 (pre_app hp)
   have f14 := nwE hM10 he11
   have lo15 := loE he11 hp
   obtain ⟨M16, hM16⟩ := nM (M10.set e11 (.cells (k_Api_Stream x)))
   refine OD (undefA) M16 rfl (o_store (cs' := (k_Api_Stream x)) ti24 rfl rfl f14 (sz _) rfl rfl rfl (Nat.le_of_ble_eq_true rfl) rfl hM16) ?_
   have f17 := eqM hM16 (get_ne ne f12)
   have f18 := eqM hM16 (get_self f14)
   have hp19 := eqP hM16 (pre_hi hp13 lo15)
   refine nt <| sr (by decide) <| OD _ M16 rfl (o_fieldAddrP (fo := 4) U24 rfl ti22 (sz _) rfl) <| OD _ M16 rfl (o_loadP ag22 ti22 rfl f18 rfl rf) ?_
   obtain ⟨y20, q21, h⟩ := bs h
   refine OD (.sl 2 (y20.map c_Api_Item) .no) M16 rfl (o_call (w_chain_copied x.Items M16 q21) ⟨rf, trivial⟩ rf) <| OD _ M16 rfl (o_fieldAddrP (fo := 4) U24 rfl ti22 (sz _) rfl) ?_
   obtain ⟨M22, hM22⟩ := nM (M16.set e11 (.cells [kI x.Blocks, kI x.Size, kI x.From, kI x.To, .sl 2 (y20.map c_Api_Item) .no]))
   refine OD (undefA) M22 rfl (o_store (cs' := [kI x.Blocks, kI x.Size, kI x.From, kI x.To, .sl 2 (y20.map c_Api_Item) .no]) ti22 rfl rfl f18 (sz _) rfl rfl rfl (Nat.le_of_ble_eq_true rfl) rfl hM22) ?_
   have f23 := eqM hM22 (get_ne ne f17)
   have f24 := eqM hM22 (get_self f18)
   have hp25 := eqP hM22 (pre_hi hp19 lo15)
   refine nt <| aw_seq <| sr (by decide) <| OR 1 rfl ?_
   obtain ⟨m, qm, h⟩ := bs h
   refine OD (.sl 5 (m.map c_Api_Stream) .no) M22 rfl (o_slice (c := c_Api_Stream) (k := .no) (lo' := some (.i64, 1)) (hi' := none) (mx' := none) U39 ti24 rfl rfl rfl rfl qm (fun h => by cases h)) ?_
   refine OD (kI (m.length : Int)) M22 rfl (o_lenL U39 rfl) <| OR 1 rfl <| nt ?_
   obtain ⟨me11, h, k⟩ := bs h
   refine aw_tailS (S := Api_Stream) (G := Unit) me11 (fun s g => Frm.of [(2, .pt e 0), (4, .pt e11 0)]) (fun s g M => H <+: M ∧ M[e]? = some (.cells z_Api_Stream) ∧ M[e11]? = some (.cells (k_Api_Stream s))) ?_ ?_
   ·refine aw_block ?_
    refine aw_loopD (S := (Int × Api_Stream)) (G := Unit) (H1 := M22) h (fun s g => Frm.of [(2, .pt e 0), (4, .pt e11 0), (24, .sl 5 (m.map c_Api_Stream) .no), (25, kI (m.length : Int)), (26, kI s.1)]) (fun s g M => H <+: M ∧ M[e]? = some (.cells z_Api_Stream) ∧ M[e11]? = some (.cells (k_Api_Stream s.2))) () ⟨hp25, f23, f24⟩ (flr rfl) ?_
    intro s1 g1 M41 vc hI h k45
    obtain ⟨t2639, me1140⟩ := s1
    obtain ⟨⟩ := g1
    obtain ⟨hp42, f43, f44⟩ := hI
    unfold chain_All_L1 at h
    refine sr (by decide) <| OR 1 rfl <| nt <| aw_seq ?_
    refine aT h rfl (fun hb46 h => ?_) (fun hb46 h => ?_)
    ·refine aw_skip <| thenQ_n <| aw_seq <| aw_block <| sr (by decide) ?_
     obtain ⟨x47, qx47, h⟩ := bs h
     refine OD _ M41 rfl (o_indexAddr (c := c_Api_Stream) U39 ti24 rfl rfl qx47) <| OD (.ag (k_Api_Stream x47)) M41 rfl (o_loadEA ag24 ti24 rfl (Nat.le_of_ble_eq_true rfl) rf) ?_
     obtain ⟨M48, hM48⟩ := nM (M41 ++ [(.cells z_Api_Stream)])
     obtain ⟨e49, he49⟩ := nE (M41.length)
     refine OD (.pt e49 0) M48 rfl (by rw [he49]; exact o_alloc ti24 hM48) ?_
     have ne50 := neE he49 f43
     have ne51 := neE he49 f44
     have f52 := eqM hM48 (get_app f43)
     have f53 := eqM hM48 (get_app f44)
     have hp54 := eqP hM48 (pre_app hp42)
     have f55 := nwE hM48 he49
     have lo56 := loE he49 hp42
     obtain ⟨M57, hM57⟩ := nM (M48.set e49 (.cells (k_Api_Stream x47)))
     refine OD (undefA) M57 rfl (o_store (cs' := (k_Api_Stream x47)) ti24 rfl rfl f55 (sz _) rfl rfl rfl (Nat.le_of_ble_eq_true rfl) rfl hM57) ?_
     have f58 := eqM hM57 (get_ne ne50 f52)
     have f59 := eqM hM57 (get_ne ne51 f53)
     have f60 := eqM hM57 (get_self f55)
     have hp61 := eqP hM57 (pre_hi hp54 lo56)
     refine nt <| aw_region (by decide) <| OD (.ag (k_Api_Stream me1140)) M57 rfl (o_loadPA ag24 ti24 rfl f59 (Nat.le_of_ble_eq_true rfl) rf) <| OD (.ag (k_Api_Stream x47)) M57 rfl (o_loadPA ag24 ti24 rfl f60 (Nat.le_of_ble_eq_true rfl) rf) ?_
     obtain ⟨⟨y62, y63⟩, q64, h⟩ := bs h
     refine OD (.tp [.ag (k_Api_Stream y62), kI y63]) M57 rfl (o_call (w_chain_Merge me1140 x47 M57 q64) ⟨rf, rf, trivial⟩ rf) <| OR 3 rfl ?_
     obtain ⟨M65, hM65⟩ := nM (M57.set e11 (.cells (k_Api_Stream y62)))
     refine OD (undefA) M65 rfl (o_store (cs' := (k_Api_Stream y62)) ti24 rfl rfl f59 (sz _) rfl rfl rfl (Nat.le_of_ble_eq_true rfl) rfl hM65) ?_
     have f66 := eqM hM65 (get_ne ne f58)
     have f67 := eqM hM65 (get_self f59)
     have f68 := eqM hM65 (get_ne (Ne.symm ne51) f60)
     have hp69 := eqP hM65 (pre_hi hp61 lo15)
     refine OpsS_nil <| blockQ_n <| thenQ_n <| aw_region (by decide) <| OR 2 rfl <| OpsS_nil ?_
     exact thenQ_n ⟨((w64 (t2639 + 1)), y62), (), M65, (Option.some.inj h).symm, ⟨hp69, f66, f67⟩, flr rfl⟩
    ·refine aw_exit <| thenQ_exit <| thenQ_exit ?_
     have h := early_ret h k45
     refine blockQ_exit ?_
     obtain rfl := sI h
     exact thenQ_n ⟨(), M41, ⟨hp42, f43, f44⟩, flr rfl⟩
   ·rintro ⟨⟩ M26 ⟨hp27, f28, f29⟩
    have h := k
    refine thenQ_n <| sr (by decide) <| OD (.ag (k_Api_Stream me11)) M26 rfl (o_loadPA ag24 ti24 rfl f29 (Nat.le_of_ble_eq_true rfl) rf) ?_
    obtain ⟨M70, hM70⟩ := nM (M26.set e (.cells (k_Api_Stream me11)))
    refine OD (undefA) M70 rfl (o_store (cs' := (k_Api_Stream me11)) ti24 rfl rfl f28 (sz _) rfl rfl rfl (Nat.le_of_ble_eq_true rfl) rfl hM70) ?_
    have f71 := eqM hM70 (get_self f28)
    have f72 := eqM hM70 (get_ne (Ne.symm ne) f29)
    have hp73 := eqP hM70 (pre_hi hp27 lo)
    refine OR 1 rfl <| nt <| aw_ret ?_
    obtain rfl := sI h
    exact done_list (avs := [.ag (k_Api_Stream me11), kI 0]) rfl (by simp) (ar_cellA (r := .ag (k_Api_Stream me11)) ag24 ti24 rfl f71 (Nat.le_of_ble_eq_true rfl) rfl (ar_tmp rfl ar_nil)) (.tup ⟨rf, rf, trivial⟩) hp73
set_option maxHeartbeats 4000000 in
theorem w_chain_Blocks (vs : Api_Stream) (H : Mem) {r : (List (List Int))} (h : chain_Blocks vs = some r) : ACalls Try.prog 44 [.ag (k_Api_Stream vs)] H (fun r' H' => r' = .sl 1 (r.map (c_L 1 c_u8)) .no ∧ H' = H) := by
 unfold chain_Blocks at h
 refine ACalls.done0 rfl ?_
 refine acalls_walk Try.func44 rfl cl44 (by simp [Try.ntmps44]) (fun hB => ?_)
 refine aw_reb (Reb.of (l := [(0, .ag (k_Api_Stream vs))]) (by simp [FrL, afr0])) ?_
 have hpre : H <+: H := List.prefix_refl _
 refine sr (by decide) ?_
 obtain ⟨M, hM⟩ := nM (H ++ [(.cells (k_Api_Stream vs))])
 obtain ⟨e, he⟩ := nE (H.length)
 refine OD (.pt e 0) M rfl (by rw [he]; exact o_box rfl hM) ?_
 have hp := eqP hM (pre_app hpre)
 have f := nwE hM he
 have lo := loE he hpre
 refine OR 1 rfl <| nt <| aw_seq <| sr (by decide) <| OD (.ag (k_Api_Stream vs)) M rfl (o_loadPA ag24 ti24 rfl f (Nat.le_of_ble_eq_true rfl) rf) ?_
 obtain ⟨y, q, h⟩ := bs h
 refine OD (kB y) M rfl (o_call (w_chain_full vs M q) ⟨rf, trivial⟩ rf) <| OR 1 rfl <| nt ?_
 refine aT h rfl (fun hb h => ?_) (fun hb h => ?_)
 ·refine sr (by decide) <| OR 1 rfl <| nt <| aw_ret <| thenQ_ret ?_
  obtain rfl := sI h
  exact done_tmp rfl (.nil _) hp
 ·refine aw_skip <| thenQ_n <| sr (by decide) <| OR 1 rfl <| nt <| aw_seq ?_
  refine sr (by decide) <| OD _ M rfl (o_fieldAddrP (fo := 4) U24 rfl ti22 (sz _) rfl) <| OD _ M rfl (o_loadP ag22 ti22 rfl f rfl rf) ?_
  obtain ⟨y1, q2, h⟩ := bs h
  refine OD (.sl 2 (y1.map c_Api_Item) .no) M rfl (o_call (w_chain_copied vs.Items M q2) ⟨rf, trivial⟩ rf) <| OD (kI (y1.length : Int)) M rfl (o_lenL U22 rfl) <| OR 1 rfl <| nt ?_
  obtain ⟨out, h, k⟩ := bs h
  refine aw_tailS (S := (List (List Int))) (G := Nat) out (fun s g => Frm.of [(3, .sl 1 (s.map (c_L 1 c_u8)) (.tk g))]) (fun s g M => H <+: M ∧ M[e]? = some (.cells (k_Api_Stream vs)) ∧ M[g]? = some .tok ∧ H.length ≤ g) ?_ ?_
  ·refine aw_block ?_
   refine aw_loopD (S := ((List (List Int)) × Int)) (G := Nat) (H1 := (M ++ [Ent.tok])) h (fun s g => Frm.of [(3, .sl 1 (s.1.map (c_L 1 c_u8)) (.tk g)), (11, .sl 2 (y1.map c_Api_Item) .no), (12, kI (y1.length : Int)), (13, kI s.2)]) (fun s g M => H <+: M ∧ M[e]? = some (.cells (k_Api_Stream vs)) ∧ M[g]? = some .tok ∧ H.length ≤ g) M.length ⟨(pre_app hp), (get_app f), get_new, (pre_len hp)⟩ (Reb.trans (Reb.void (l := [(3, .sl 1 (([] : (List (List Int))).map (c_L 1 c_u8)) (.tk M.length)), (11, .sl 2 (y1.map c_Api_Item) .no), (12, kI (y1.length : Int)), (13, kI 0)]) ⟨.nil _ _, .of rf, .of rf, .of rf, trivial⟩) (flr rfl)) ?_
   intro s1 gout19 M21 vc hI h k26
   obtain ⟨out18, t1320⟩ := s1
   obtain ⟨hp22, f23, f24, lo25⟩ := hI
   unfold chain_Blocks_L1 at h
   refine sr (by decide) <| OR 1 rfl <| nt <| aw_seq ?_
   refine aT h rfl (fun hb27 h => ?_) (fun hb27 h => ?_)
   ·refine aw_skip <| thenQ_n <| aw_seq <| aw_block <| sr (by decide) ?_
    obtain ⟨x, qx, h⟩ := bs h
    refine OD _ M21 rfl (o_indexAddr (c := c_Api_Item) U22 ti29 rfl rfl qx) <| OD (.ag [kI x.Block, .sl 1 (x.Data.map c_u8) .no]) M21 rfl (o_loadEA ag29 ti29 rfl (Nat.le_of_ble_eq_true rfl) rf) ?_
    obtain ⟨M28, hM28⟩ := nM (M21 ++ [(.cells [kI 0, .sc (.slice none 0 0)])])
    obtain ⟨e29, he29⟩ := nE (M21.length)
    refine OD (.pt e29 0) M28 rfl (by rw [he29]; exact o_alloc ti29 hM28) ?_
    have ne := neE he29 f23
    have ne30 := neE he29 f24
    have f31 := eqM hM28 (get_app f23)
    have f32 := eqM hM28 (get_app f24)
    have hp33 := eqP hM28 (pre_app hp22)
    have f34 := nwE hM28 he29
    have lo35 := loE he29 hp22
    obtain ⟨M36, hM36⟩ := nM (M28.set e29 (.cells [kI x.Block, .sl 1 (x.Data.map c_u8) .no]))
    refine OD (undefA) M36 rfl (o_store (cs' := [kI x.Block, .sl 1 (x.Data.map c_u8) .no]) ti29 rfl rfl f34 (sz _) rfl rfl rfl (Nat.le_of_ble_eq_true rfl) rfl hM36) ?_
    have f37 := eqM hM36 (get_ne ne f31)
    have f38 := eqM hM36 (get_self f34)
    have f39 := eqM hM36 (get_ne (Ne.symm (tok_ne f34 f32)) f32)
    have hp40 := eqP hM36 (pre_hi hp33 lo35)
    refine nt <| aw_region (by decide) <| OR 1 rfl <| OD _ M36 rfl (o_fieldAddrP (fo := 1) U29 rfl ti25 (sz _) rfl) <| OD _ M36 rfl (o_loadP ag25 ti25 rfl f38 rfl rf) <| OD (.sl 1 (([x.Data] : (List (List Int))).map (c_L 1 c_u8)) .ex) M36 rfl (o_buildSlice0 (cs := [.sl 1 (x.Data.map c_u8) .no]) (pcs := [.sl 1 (x.Data.map c_u8)]) U62 ti25 rfl (by decide) rfl rfl rf) ?_
    obtain ⟨m, qm, h⟩ := bs h
    obtain ⟨M41, hM41⟩ := nM (M36.set gout19 .dead ++ [.tok])
    obtain ⟨e42, he42⟩ := nE (M36.length)
    refine OD (.sl 1 (m.map (c_L 1 c_u8)) (.tk e42)) M41 rfl (by rw [he42]; exact o_appT (c := (c_L 1 c_u8)) rfl f39 (src_sl rfl) U62 ti25 rfl (by simp [sliceStr, U62]) qm hM41) ?_
    have ne43 := neE he42 f37
    have f44 := eqM hM41 (get_app (get_ne (tok_ne f37 f39) f37))
    have ne45 := neE he42 f38
    have f46 := eqM hM41 (get_app (get_ne (tok_ne f38 f39) f38))
    have hp47 := eqP hM41 (pre_app (pre_hi hp40 lo25))
    have f48 : M41[e42]? = some .tok := by rw [hM41, he42]; exact get_new2
    have lo49 := loE he42 hp40
    refine OR 1 rfl <| OpsS_nil <| blockQ_n <| thenQ_n <| aw_region (by decide) <| OR 2 rfl <| OpsS_nil ?_
    exact thenQ_n ⟨(m, (w64 (t1320 + 1))), e42, M41, (Option.some.inj h).symm, ⟨hp47, f44, f48, lo49⟩, flr rfl⟩
   ·refine aw_exit <| thenQ_exit <| thenQ_exit ?_
    have h := early_ret h k26
    refine blockQ_exit ?_
    obtain rfl := sI h
    exact thenQ_n ⟨gout19, M21, ⟨hp22, f23, f24, lo25⟩, flr rfl⟩
  ·rintro gout M3 ⟨hp4, f5, f6, lo7⟩
   have h := k
   refine thenQ_n <| sr (by decide) <| OR 2 rfl <| nt <| aw_ret ?_
   obtain rfl := sI h
   exact done_tmp rfl (.no _ _ _) hp4
set_option maxHeartbeats 4000000 in
theorem w_chain_Decode (l : (List (List Int))) (H : Mem) {r : ((List Api_Stream) × Int × Int)} (h : chain_Decode l = some r) : ACalls Try.prog 79 [.sl 1 (l.map (c_L 1 c_u8)) .no] H (fun r' H' => r' = .tp [.sl 5 (r.1.map c_Api_Stream) .no, kI r.2.1, kI r.2.2] ∧ H' = H) := by
 unfold chain_Decode at h
 refine ACalls.done0 rfl ?_
 refine acalls_walk Try.func79 rfl cl79 (by simp [Try.ntmps79]) (fun hB => ?_)
 refine aw_reb (Reb.of (l := [(0, .sl 1 (l.map (c_L 1 c_u8)) .no)]) (by simp [FrL, afr0])) ?_
 have hpre : H <+: H := List.prefix_refl _
 refine sr (by decide) <| OR 3 rfl <| nt <| sr (by decide) <| OR 1 rfl ?_
 refine nt <| aw_seq <| sr (by decide) <| OR 1 rfl <| OD (kI (l.length : Int)) H rfl (o_lenL U62 rfl) <| OR 1 rfl ?_
 refine nt ?_
 obtain ⟨vc, h, k⟩ := bs h
 refine aw_tailS (S := Unit) (G := Unit) vc (fun s g => Frm.of [(5, .sc (.slice none 0 0))]) (fun s g M => H <+: M) ?_ ?_
 ·refine aw_block ?_
  refine aw_loopD (S := Unit) (G := Unit) (H1 := H) h (fun s g => Frm.of [(5, .sc (.slice none 0 0)), (11, .sl 1 (l.map (c_L 1 c_u8)) .no), (12, kI (l.length : Int)), (13, kI 0)]) (fun s g M => H <+: M) () hpre (flr rfl) ?_
  intro s1 g1 M3 vc6 hI h k5
  obtain ⟨⟩ := s1
  obtain ⟨⟩ := g1
  have hp4 := hI
  unfold chain_Decode_L1 at h
  refine sr (by decide) <| OR 1 rfl <| nt <| aw_seq ?_
  refine aT h rfl (fun hb h => ?_) (fun hb h => ?_)
  ·cases h
  ·refine aw_exit <| thenQ_exit <| thenQ_exit ?_
   have h := early_ret h k5
   refine blockQ_exit ?_
   obtain rfl := sI h
   exact thenQ_n ⟨(), M3, hp4, flr rfl⟩
 ·obtain ⟨⟩ := vc
  rintro ⟨⟩ M hp
  have h := k
  refine thenQ_n <| aw_seq <| sr (by decide) <| OR 1 rfl <| OD (kI 0) M rfl (o_lenN U39 rfl) <| OR 1 rfl ?_
  refine oT h rfl (o_move rf) (fun hg h => ?_) (fun hg h => ?_)
  ·refine OR 6 rfl <| nt <| aw_true rfl <| sr (by decide) <| OR 3 rfl <| OpsS_nil ?_
   refine thenQ_n <| aw_ret <| thenQ_ret ?_
   obtain rfl := sI h
   exact done_list (avs := [.sc (.slice none 0 0), kI 0, kI 38]) rfl (by simp) (ar_tmp rfl (ar_tmp rfl (ar_tmp rfl ar_nil))) (.tup ⟨(.nil _), rf, rf, trivial⟩) hp
  ·refine OR 1 rfl ?_
   cases h
set_option maxHeartbeats 4000000 in
theorem w_mementoref13_SameItems (a : (List Api_Item)) (b : (List Api_Item)) (H : Mem) {r : Bool} (h : mementoref13_SameItems a b = some r) : ACalls Try.prog 59 [.sl 2 (a.map c_Api_Item) .no, .sl 2 (b.map c_Api_Item) .no] H (fun r' H' => r' = kB r ∧ H' = H) := by
 unfold mementoref13_SameItems at h
 refine ACalls.done0 rfl ?_
 refine acalls_walk Try.func59 rfl cl59 (by simp [Try.ntmps59]) (fun hB => ?_)
 refine aw_reb (Reb.of (l := [(0, .sl 2 (a.map c_Api_Item) .no), (1, .sl 2 (b.map c_Api_Item) .no)]) (by simp [FrL, afr0])) ?_
 have hpre : H <+: H := List.prefix_refl _
 refine sr (by decide) <| OR 1 rfl <| nt <| aw_seq <| sr (by decide) ?_
 refine OR 1 rfl <| OD (kI (a.length : Int)) H rfl (o_lenL U22 rfl) <| OR 1 rfl <| OD (kI (b.length : Int)) H rfl (o_lenL U22 rfl) <| OR 1 rfl <| nt ?_
 refine aT h rfl (fun hb h => ?_) (fun hb h => ?_)
 ·refine sr (by decide) <| OR 1 rfl <| nt <| aw_ret <| thenQ_ret ?_
  obtain rfl := sI h
  exact done_tmp rfl rf hpre
 ·refine aw_skip <| thenQ_n <| aw_seq <| sr (by decide) <| OR 1 rfl <| nt ?_
  obtain ⟨vc, h, k⟩ := kont_some h
  refine aw_tailD (S := Unit) (G := Unit) vc (fun s g => Frm.of []) (fun s g M => H <+: M) ?_ ?_
  ·refine aw_block ?_
   refine aw_loopD (S := Int) (G := Unit) (H1 := H) h (fun s g => Frm.of [(0, .sl 2 (a.map c_Api_Item) .no), (1, .sl 2 (b.map c_Api_Item) .no), (5, kI s)]) (fun s g M => H <+: M) () hpre (flr rfl) ?_
   intro i5 g1 M6 vc9 hI h k8
   obtain ⟨⟩ := g1
   have hp7 := hI
   unfold mementoref13_SameItems_L1 at h
   refine aw_seq <| sr (by decide) <| OR 2 rfl <| OD (kI (a.length : Int)) M6 rfl (o_lenL U22 rfl) <| OR 1 rfl <| nt ?_
   refine aT h rfl (fun hb10 h => ?_) (fun hb10 h => ?_)
   ·refine aw_skip <| thenQ_n <| aw_seq <| aw_block ?_
    obtain ⟨t42, h, k13⟩ := bs h
    refine aw_joinS (S := Bool) (G := Unit) t42 (fun s g => Frm.of [(0, .sl 2 (a.map c_Api_Item) .no), (1, .sl 2 (b.map c_Api_Item) .no), (5, kI i5), (42, kB s)]) (fun s g M => H <+: M) ?_ ?_
    ·refine aw_draw mixed [0, 0, 0, 0, 0, 0, 0, 0, 0, 0, 0, 0, 0, 0, 0, 0, 0, 0, 0, 0, 0, 0, 0, 0, 0, 0] (by decide) (by kernel_rfl) <| DR 2 rfl ?_
     obtain ⟨x, qx, h⟩ := bs h
     refine DD0 _ rfl (fun H0 => o_indexAddr (c := c_Api_Item) U22 ti29 rfl rfl qx) <| DD0 _ rfl (fun H0 => o_fieldAddrE (fo := 0) U29 rfl ti3 (sz _) rfl) <| DD0 (kI x.Block) rfl (fun H0 => o_loadE ag3 ti3 rfl rf) <| DR 2 rfl ?_
     obtain ⟨x14, qx14, h⟩ := bs h
     refine DD0 _ rfl (fun H0 => o_indexAddr (c := c_Api_Item) U22 ti29 rfl rfl qx14) <| DD0 _ rfl (fun H0 => o_fieldAddrE (fo := 0) U29 rfl ti3 (sz _) rfl) <| DD0 (kI x14.Block) rfl (fun H0 => o_loadE ag3 ti3 rfl rf) <| DR 1 rfl ?_
     refine dT0 h rfl (fun H0 => o_move rf) (fun hg h => ?_) (fun hg h => ?_)
     ·refine DR 14 rfl <| DRun_nil ?_
      obtain rfl := sI h
      exact thenQ_n ⟨(), M6, hp7, flr rfl⟩
     ·refine DR 2 rfl <| DD0 _ rfl (fun H0 => o_indexAddr (c := c_Api_Item) U22 ti29 rfl rfl qx) <| DD0 _ rfl (fun H0 => o_fieldAddrE (fo := 1) U29 rfl ti25 (sz _) rfl) <| DD0 (.sl 1 (x.Data.map c_u8) .no) rfl (fun H0 => o_loadE ag25 ti25 rfl rf) <| DD0 (.sc (.string ⟨(strOf x.Data).toArray⟩)) rfl (fun H0 => o_convS U25 U5 U9 rfl) <| DR 2 rfl <| DD0 _ rfl (fun H0 => o_indexAddr (c := c_Api_Item) U22 ti29 rfl rfl qx14) <| DD0 _ rfl (fun H0 => o_fieldAddrE (fo := 1) U29 rfl ti25 (sz _) rfl) ?_
      refine DD0 (.sl 1 (x14.Data.map c_u8) .no) rfl (fun H0 => o_loadE ag25 ti25 rfl rf) <| DD0 (.sc (.string ⟨(strOf x14.Data).toArray⟩)) rfl (fun H0 => o_convS U25 U5 U9 rfl) <| DD0 (kB ((strOf x.Data) != (strOf x14.Data))) rfl (fun H0 => o_neS rfl rfl) <| DR 1 rfl <| DRun_nil ?_
      obtain rfl := sI h
      exact thenQ_n ⟨(), M6, hp7, flr rfl⟩
    ·rintro ⟨⟩ M11 hp12
     have h := k13
     refine aT h rfl (fun hb15 h => ?_) (fun hb15 h => ?_)
     ·refine sr (by decide) <| OR 1 rfl <| nt <| aw_ret <| blockQ_ret <| thenQ_ret ?_
      refine thenQ_ret ?_
      have h := early_ret h k8
      refine blockQ_ret <| thenQ_ret ?_
      have h := early_some h k
      refine thenQ_ret ?_
      obtain rfl := sI h
      exact done_tmp rfl rf hp12
     ·refine aw_skip <| blockQ_n <| thenQ_n <| aw_region (by decide) <| OR 3 rfl <| OpsS_nil ?_
      exact thenQ_n ⟨(w64 (i5 + 1)), (), M11, (Option.some.inj h).symm, hp12, flr rfl⟩
   ·refine aw_exit <| thenQ_exit <| thenQ_exit ?_
    have h := early_ret h k8
    refine blockQ_exit ?_
    exact thenQ_n ⟨(), (), M6, (Option.some.inj h).symm, hp7, Reb.fl trivial⟩
  ·rintro ⟨⟩ ⟨⟩ M rfl hp
   have h := kont_go k
   refine thenQ_n <| sr (by decide) <| OR 1 rfl <| nt <| aw_ret ?_
   obtain rfl := sI h
   exact done_tmp rfl rf hp
set_option maxHeartbeats 4000000 in
theorem w_mementohelp_Streams (a : Api_Stream) (b : Api_Stream) (H : Mem) {r : Bool} (h : mementohelp_Streams a b = some r) : ACalls Try.prog 43 [.ag (k_Api_Stream a), .ag (k_Api_Stream b)] H (fun r' H' => r' = kB r ∧ H' = H) := by
 unfold mementohelp_Streams at h
 refine ACalls.done0 rfl ?_
 refine acalls_walk Try.func43 rfl cl43 (by simp [Try.ntmps43]) (fun hB => ?_)
 refine aw_reb (Reb.of (l := [(0, .ag (k_Api_Stream a)), (1, .ag (k_Api_Stream b))]) (by simp [FrL, afr0])) ?_
 have hpre : H <+: H := List.prefix_refl _
 refine sr (by decide) ?_
 obtain ⟨M, hM⟩ := nM (H ++ [(.cells (k_Api_Stream a))])
 obtain ⟨e, he⟩ := nE (H.length)
 refine OD (.pt e 0) M rfl (by rw [he]; exact o_box rfl hM) ?_
 have hp := eqP hM (pre_app hpre)
 have f := nwE hM he
 have lo := loE he hpre
 obtain ⟨M1, hM1⟩ := nM (M ++ [(.cells (k_Api_Stream b))])
 obtain ⟨e2, he2⟩ := nE (M.length)
 refine OD (.pt e2 0) M1 rfl (by rw [he2]; exact o_box rfl hM1) ?_
 have ne := neE he2 f
 have f3 := eqM hM1 (get_app f)
 have hp4 := eqP hM1 (pre_app hp)
 have f5 := nwE hM1 he2
 have lo6 := loE he2 hp
 refine OR 1 rfl <| nt ?_
 obtain ⟨t4, h, k⟩ := bs h
 refine aw_joinS (S := Bool) (G := Unit) t4 (fun s g => Frm.of [(4, kB s)]) (fun s g M => H <+: M ∧ M[e]? = some (.cells (k_Api_Stream a)) ∧ M[e2]? = some (.cells (k_Api_Stream b))) ?_ ?_
 ·refine aw_region (by decide) <| OD _ M1 rfl (o_fieldAddrP (fo := 0) U24 rfl ti3 (sz _) rfl) <| OD _ M1 rfl (o_loadP ag3 ti3 rfl f3 rfl rf) <| OD _ M1 rfl (o_fieldAddrP (fo := 0) U24 rfl ti3 (sz _) rfl) <| OD _ M1 rfl (o_loadP ag3 ti3 rfl f5 rfl rf) <| OR 1 rfl ?_
  refine oT h rfl (o_move rf) (fun hg h => ?_) (fun hg h => ?_)
  ·refine OD _ M1 rfl (o_fieldAddrP (fo := 1) U24 rfl ti3 (sz _) rfl) <| OD _ M1 rfl (o_loadP ag3 ti3 rfl f3 rfl rf) <| OD _ M1 rfl (o_fieldAddrP (fo := 1) U24 rfl ti3 (sz _) rfl) <| OD _ M1 rfl (o_loadP ag3 ti3 rfl f5 rfl rf) <| OR 2 rfl ?_
   refine oT h rfl (o_move rf) (fun hg11 h => ?_) (fun hg11 h => ?_)
   ·refine OD _ M1 rfl (o_fieldAddrP (fo := 2) U24 rfl ti2 (sz _) rfl) <| OD _ M1 rfl (o_loadP ag2 ti2 rfl f3 rfl rf) <| OD _ M1 rfl (o_fieldAddrP (fo := 2) U24 rfl ti2 (sz _) rfl) <| OD _ M1 rfl (o_loadP ag2 ti2 rfl f5 rfl rf) <| OR 2 rfl ?_
    refine oT h rfl (o_move rf) (fun hg12 h => ?_) (fun hg12 h => ?_)
    ·refine OD _ M1 rfl (o_fieldAddrP (fo := 3) U24 rfl ti2 (sz _) rfl) <| OD _ M1 rfl (o_loadP ag2 ti2 rfl f3 rfl rf) <| OD _ M1 rfl (o_fieldAddrP (fo := 3) U24 rfl ti2 (sz _) rfl) <| OD _ M1 rfl (o_loadP ag2 ti2 rfl f5 rfl rf) <| OR 2 rfl ?_
     refine oT h rfl (o_move rf) (fun hg13 h => ?_) (fun hg13 h => ?_)
     ·refine OD _ M1 rfl (o_fieldAddrP (fo := 4) U24 rfl ti22 (sz _) rfl) <| OD _ M1 rfl (o_loadP ag22 ti22 rfl f3 rfl rf) <| OD _ M1 rfl (o_fieldAddrP (fo := 4) U24 rfl ti22 (sz _) rfl) <| OD _ M1 rfl (o_loadP ag22 ti22 rfl f5 rfl rf) ?_
      obtain ⟨y, q, h⟩ := bs h
      refine OD (kB y) M1 rfl (o_call (w_mementoref13_SameItems a.Items b.Items M1 q) ⟨rf, rf, trivial⟩ rf) <| OR 2 rfl <| OpsS_nil ?_
      obtain rfl := sI h
      exact thenQ_n ⟨(), M1, ⟨hp4, f3, f5⟩, flr rfl⟩
     ·refine OR 7 rfl <| OpsS_nil ?_
      obtain rfl := sI h
      exact thenQ_n ⟨(), M1, ⟨hp4, f3, f5⟩, flr rfl⟩
    ·refine OR 14 rfl <| OpsS_nil ?_
     obtain rfl := sI h
     exact thenQ_n ⟨(), M1, ⟨hp4, f3, f5⟩, flr rfl⟩
   ·refine OR 21 rfl <| OpsS_nil ?_
    obtain rfl := sI h
    exact thenQ_n ⟨(), M1, ⟨hp4, f3, f5⟩, flr rfl⟩
  ·refine OR 28 rfl <| OpsS_nil ?_
   obtain rfl := sI h
   exact thenQ_n ⟨(), M1, ⟨hp4, f3, f5⟩, flr rfl⟩
 ·rintro ⟨⟩ M7 ⟨hp8, f9, f10⟩
  have h := k
  refine aw_ret ?_
  obtain rfl := sI h
  exact done_tmp rfl rf hp8
set_option maxHeartbeats 4000000 in
theorem w_mementolaw22_known (H : Mem) {r : Bool} (h : mementolaw22_known = some r) : ACalls Try.prog 39 [] H (fun r' H' => r' = kB r ∧ H' = H) := by
 unfold mementolaw22_known at h
 refine ACalls.done0 rfl ?_
 refine acalls_walk Try.func39 rfl cl39 (by simp [Try.ntmps39]) (fun hB => ?_)
 refine aw_reb (Reb.of (l := []) (by simp [FrL, afr0])) ?_
 have hpre : H <+: H := List.prefix_refl _
 refine sr (by decide) <| OR 1 rfl <| nt <| sr (by decide) ?_
 obtain ⟨M, hM⟩ := nM (H ++ [(.cells ((([120] : (List Int)).map c_u8).flatten.map PV.av))])
 obtain ⟨e, he⟩ := nE (H.length)
 refine OD (.hs e 0 1 1 1) M rfl (by rw [he]; exact o_buildSlice2 (cs := [kY 120]) U25 ti5 rfl (by decide) rfl hM) ?_
 have hp := eqP hM (pre_app hpre)
 have f := nwE hM he
 have lo := loE he hpre
 have ln : ([120] : (List Int)).length = 1 := rfl
 obtain ⟨M1, hM1⟩ := nM (M.set e .dead)
 refine OD (.sl 1 (([120] : (List Int)).map c_u8) .no) M1 rfl (o_bytesC (l := ([120] : (List Int))) U25 U5 rfl ln (by decide) f rfl hM1) ?_
 have hp2 := eqP hM1 (pre_hi hp lo)
 refine OD (.ag [kI 0, .sl 1 (([120] : (List Int)).map c_u8) .no]) M1 rfl (o_build (pl := pl29) (cs := [kI 0, .sl 1 (([120] : (List Int)).map c_u8) .no]) ti29 U29 (fp29 _ U29) (fa29 _ U29) rfl rf) ?_
 obtain ⟨M3, hM3⟩ := nM (M1 ++ [(.cells ((([121] : (List Int)).map c_u8).flatten.map PV.av))])
 obtain ⟨e4, he4⟩ := nE (M1.length)
 refine OD (.hs e4 0 1 1 1) M3 rfl (by rw [he4]; exact o_buildSlice2 (cs := [kY 121]) U25 ti5 rfl (by decide) rfl hM3) ?_
 have hp5 := eqP hM3 (pre_app hp2)
 have f6 := nwE hM3 he4
 have lo7 := loE he4 hp2
 have ln8 : ([121] : (List Int)).length = 1 := rfl
 obtain ⟨M9, hM9⟩ := nM (M3.set e4 .dead)
 refine OD (.sl 1 (([121] : (List Int)).map c_u8) .no) M9 rfl (o_bytesC (l := ([121] : (List Int))) U25 U5 rfl ln8 (by decide) f6 rfl hM9) ?_
 have hp10 := eqP hM9 (pre_hi hp5 lo7)
 refine OD (.ag [kI 1, .sl 1 (([121] : (List Int)).map c_u8) .no]) M9 rfl (o_build (pl := pl29) (cs := [kI 1, .sl 1 (([121] : (List Int)).map c_u8) .no]) ti29 U29 (fp29 _ U29) (fa29 _ U29) rfl rf) <| OD (.sl 2 (([(Api_Item.mk 0 ([120] : (List Int))), (Api_Item.mk 1 ([121] : (List Int)))] : (List Api_Item)).map c_Api_Item) .ex) M9 rfl (o_buildSlice0 (cs := [kI 0, .sl 1 (([120] : (List Int)).map c_u8) .no, kI 1, .sl 1 (([121] : (List Int)).map c_u8) .no]) (pcs := [.sc (.int .i64 0), .sl 1 (([120] : (List Int)).map c_u8), .sc (.int .i64 1), .sl 1 (([121] : (List Int)).map c_u8)]) U22 ti29 rfl (by decide) rfl rfl rf) <| OD (.ag [kI 2, kI 1, kI (-1), kI 1, .sl 2 (([(Api_Item.mk 0 ([120] : (List Int))), (Api_Item.mk 1 ([121] : (List Int)))] : (List Api_Item)).map c_Api_Item) .no]) M9 rfl (o_build (pl := pl24) (cs := [kI 2, kI 1, kI (-1), kI 1, .sl 2 (([(Api_Item.mk 0 ([120] : (List Int))), (Api_Item.mk 1 ([121] : (List Int)))] : (List Api_Item)).map c_Api_Item) .ex]) ti24 U24 (fp24 _ U24) (fa24 _ U24) rfl (.agg ⟨rf, rf, rf, rf, (.no _ _ _), trivial⟩)) ?_
 obtain ⟨M11, hM11⟩ := nM (M9 ++ [(.cells z_Api_Stream)])
 obtain ⟨e12, he12⟩ := nE (M9.length)
 refine OD (.pt e12 0) M11 rfl (by rw [he12]; exact o_alloc ti24 hM11) ?_
 have hp13 := eqP hM11 (pre_app hp10)
 have f14 := nwE hM11 he12
 have lo15 := loE he12 hp10
 obtain ⟨M16, hM16⟩ := nM (M11.set e12 (.cells [kI 2, kI 1, kI (-1), kI 1, .sl 2 (([(Api_Item.mk 0 ([120] : (List Int))), (Api_Item.mk 1 ([121] : (List Int)))] : (List Api_Item)).map c_Api_Item) .no]))
 refine OD (undefA) M16 rfl (o_store (cs' := [kI 2, kI 1, kI (-1), kI 1, .sl 2 (([(Api_Item.mk 0 ([120] : (List Int))), (Api_Item.mk 1 ([121] : (List Int)))] : (List Api_Item)).map c_Api_Item) .no]) ti24 rfl rfl f14 (sz _) rfl rfl rfl (Nat.le_of_ble_eq_true rfl) rfl hM16) ?_
 have f17 := eqM hM16 (get_self f14)
 have hp18 := eqP hM16 (pre_hi hp13 lo15)
 refine nt <| sr (by decide) ?_
 obtain ⟨M19, hM19⟩ := nM (M16 ++ [(.cells ((([122] : (List Int)).map c_u8).flatten.map PV.av))])
 obtain ⟨e20, he20⟩ := nE (M16.length)
 refine OD (.hs e20 0 1 1 1) M19 rfl (by rw [he20]; exact o_buildSlice2 (cs := [kY 122]) U25 ti5 rfl (by decide) rfl hM19) ?_
 have ne := neE he20 f17
 have f21 := eqM hM19 (get_app f17)
 have hp22 := eqP hM19 (pre_app hp18)
 have f23 := nwE hM19 he20
 have lo24 := loE he20 hp18
 have ln25 : ([122] : (List Int)).length = 1 := rfl
 obtain ⟨M26, hM26⟩ := nM (M19.set e20 .dead)
 refine OD (.sl 1 (([122] : (List Int)).map c_u8) .no) M26 rfl (o_bytesC (l := ([122] : (List Int))) U25 U5 rfl ln25 (by decide) f23 rfl hM26) ?_
 have f27 := eqM hM26 (get_ne ne f21)
 have hp28 := eqP hM26 (pre_hi hp22 lo24)
 refine OD (.ag [kI 1, .sl 1 (([122] : (List Int)).map c_u8) .no]) M26 rfl (o_build (pl := pl29) (cs := [kI 1, .sl 1 (([122] : (List Int)).map c_u8) .no]) ti29 U29 (fp29 _ U29) (fa29 _ U29) rfl rf) <| OD (.sl 2 (([(Api_Item.mk 1 ([122] : (List Int)))] : (List Api_Item)).map c_Api_Item) .ex) M26 rfl (o_buildSlice0 (cs := [kI 1, .sl 1 (([122] : (List Int)).map c_u8) .no]) (pcs := [.sc (.int .i64 1), .sl 1 (([122] : (List Int)).map c_u8)]) U22 ti29 rfl (by decide) rfl rfl rf) <| OD (.ag [kI 2, kI 1, kI 1, kI 2, .sl 2 (([(Api_Item.mk 1 ([122] : (List Int)))] : (List Api_Item)).map c_Api_Item) .no]) M26 rfl (o_build (pl := pl24) (cs := [kI 2, kI 1, kI 1, kI 2, .sl 2 (([(Api_Item.mk 1 ([122] : (List Int)))] : (List Api_Item)).map c_Api_Item) .ex]) ti24 U24 (fp24 _ U24) (fa24 _ U24) rfl (.agg ⟨rf, rf, rf, rf, (.no _ _ _), trivial⟩)) ?_
 obtain ⟨M29, hM29⟩ := nM (M26 ++ [(.cells z_Api_Stream)])
 obtain ⟨e30, he30⟩ := nE (M26.length)
 refine OD (.pt e30 0) M29 rfl (by rw [he30]; exact o_alloc ti24 hM29) ?_
 have ne31 := neE he30 f27
 have f32 := eqM hM29 (get_app f27)
 have hp33 := eqP hM29 (pre_app hp28)
 have f34 := nwE hM29 he30
 have lo35 := loE he30 hp28
 obtain ⟨M36, hM36⟩ := nM (M29.set e30 (.cells [kI 2, kI 1, kI 1, kI 2, .sl 2 (([(Api_Item.mk 1 ([122] : (List Int)))] : (List Api_Item)).map c_Api_Item) .no]))
 refine OD (undefA) M36 rfl (o_store (cs' := [kI 2, kI 1, kI 1, kI 2, .sl 2 (([(Api_Item.mk 1 ([122] : (List Int)))] : (List Api_Item)).map c_Api_Item) .no]) ti24 rfl rfl f34 (sz _) rfl rfl rfl (Nat.le_of_ble_eq_true rfl) rfl hM36) ?_
 have f37 := eqM hM36 (get_ne ne31 f32)
 have f38 := eqM hM36 (get_self f34)
 have hp39 := eqP hM36 (pre_hi hp33 lo35)
 refine nt <| sr (by decide) <| OD (.ag [kI 2, kI 1, kI (-1), kI 1, .sl 2 (([(Api_Item.mk 0 ([120] : (List Int))), (Api_Item.mk 1 ([121] : (List Int)))] : (List Api_Item)).map c_Api_Item) .no]) M36 rfl (o_loadPA ag24 ti24 rfl f37 (Nat.le_of_ble_eq_true rfl) rf) <| OD (.ag [kI 2, kI 1, kI 1, kI 2, .sl 2 (([(Api_Item.mk 1 ([122] : (List Int)))] : (List Api_Item)).map c_Api_Item) .no]) M36 rfl (o_loadPA ag24 ti24 rfl f38 (Nat.le_of_ble_eq_true rfl) rf) ?_
 obtain ⟨⟨y, y40⟩, q, h⟩ := bs h
 refine OD (.tp [.ag (k_Api_Stream y), kI y40]) M36 rfl (o_call (w_chain_Merge (Api_Stream.mk 2 1 (-1) 1 ([(Api_Item.mk 0 ([120] : (List Int))), (Api_Item.mk 1 ([121] : (List Int)))] : (List Api_Item))) (Api_Stream.mk 2 1 1 2 ([(Api_Item.mk 1 ([122] : (List Int)))] : (List Api_Item))) M36 q) ⟨rf, rf, trivial⟩ rf) <| OR 3 rfl ?_
 obtain ⟨M41, hM41⟩ := nM (M36 ++ [(.cells z_Api_Stream)])
 obtain ⟨e42, he42⟩ := nE (M36.length)
 refine OD (.pt e42 0) M41 rfl (by rw [he42]; exact o_alloc ti24 hM41) ?_
 have ne43 := neE he42 f37
 have ne44 := neE he42 f38
 have f45 := eqM hM41 (get_app f37)
 have f46 := eqM hM41 (get_app f38)
 have hp47 := eqP hM41 (pre_app hp39)
 have f48 := nwE hM41 he42
 have lo49 := loE he42 hp39
 obtain ⟨M50, hM50⟩ := nM (M41.set e42 (.cells (k_Api_Stream y)))
 refine OD (undefA) M50 rfl (o_store (cs' := (k_Api_Stream y)) ti24 rfl rfl f48 (sz _) rfl rfl rfl (Nat.le_of_ble_eq_true rfl) rfl hM50) ?_
 have f51 := eqM hM50 (get_ne ne43 f45)
 have f52 := eqM hM50 (get_ne ne44 f46)
 have f53 := eqM hM50 (get_self f48)
 have hp54 := eqP hM50 (pre_hi hp47 lo49)
 refine OR 1 rfl <| nt <| sr (by decide) <| OD (.ag [kI 2, kI 1, kI 1, kI 2, .sl 2 (([(Api_Item.mk 1 ([122] : (List Int)))] : (List Api_Item)).map c_Api_Item) .no]) M50 rfl (o_loadPA ag24 ti24 rfl f52 (Nat.le_of_ble_eq_true rfl) rf) <| OD (.ag [kI 2, kI 1, kI (-1), kI 1, .sl 2 (([(Api_Item.mk 0 ([120] : (List Int))), (Api_Item.mk 1 ([121] : (List Int)))] : (List Api_Item)).map c_Api_Item) .no]) M50 rfl (o_loadPA ag24 ti24 rfl f51 (Nat.le_of_ble_eq_true rfl) rf) ?_
 obtain ⟨⟨y55, y56⟩, q57, h⟩ := bs h
 refine OD (.tp [.ag (k_Api_Stream y55), kI y56]) M50 rfl (o_call (w_chain_Merge (Api_Stream.mk 2 1 1 2 ([(Api_Item.mk 1 ([122] : (List Int)))] : (List Api_Item))) (Api_Stream.mk 2 1 (-1) 1 ([(Api_Item.mk 0 ([120] : (List Int))), (Api_Item.mk 1 ([121] : (List Int)))] : (List Api_Item))) M50 q57) ⟨rf, rf, trivial⟩ rf) <| OR 3 rfl ?_
 obtain ⟨M58, hM58⟩ := nM (M50 ++ [(.cells z_Api_Stream)])
 obtain ⟨e59, he59⟩ := nE (M50.length)
 refine OD (.pt e59 0) M58 rfl (by rw [he59]; exact o_alloc ti24 hM58) ?_
 have ne60 := neE he59 f51
 have ne61 := neE he59 f52
 have ne62 := neE he59 f53
 have f63 := eqM hM58 (get_app f51)
 have f64 := eqM hM58 (get_app f52)
 have f65 := eqM hM58 (get_app f53)
 have hp66 := eqP hM58 (pre_app hp54)
 have f67 := nwE hM58 he59
 have lo68 := loE he59 hp54
 obtain ⟨M69, hM69⟩ := nM (M58.set e59 (.cells (k_Api_Stream y55)))
 refine OD (undefA) M69 rfl (o_store (cs' := (k_Api_Stream y55)) ti24 rfl rfl f67 (sz _) rfl rfl rfl (Nat.le_of_ble_eq_true rfl) rfl hM69) ?_
 have f70 := eqM hM69 (get_ne ne60 f63)
 have f71 := eqM hM69 (get_ne ne61 f64)
 have f72 := eqM hM69 (get_ne ne62 f65)
 have f73 := eqM hM69 (get_self f67)
 have hp74 := eqP hM69 (pre_hi hp66 lo68)
 refine OR 1 rfl <| nt <| sr (by decide) <| OD (.ag [kI 2, kI 1, kI (-1), kI 1, .sl 2 (([(Api_Item.mk 0 ([120] : (List Int))), (Api_Item.mk 1 ([121] : (List Int)))] : (List Api_Item)).map c_Api_Item) .no]) M69 rfl (o_loadPA ag24 ti24 rfl f70 (Nat.le_of_ble_eq_true rfl) rf) <| OD (.ag [kI 2, kI 1, kI 1, kI 2, .sl 2 (([(Api_Item.mk 1 ([122] : (List Int)))] : (List Api_Item)).map c_Api_Item) .no]) M69 rfl (o_loadPA ag24 ti24 rfl f71 (Nat.le_of_ble_eq_true rfl) rf) <| OD (.sl 5 (([(Api_Stream.mk 2 1 (-1) 1 ([(Api_Item.mk 0 ([120] : (List Int))), (Api_Item.mk 1 ([121] : (List Int)))] : (List Api_Item))), (Api_Stream.mk 2 1 1 2 ([(Api_Item.mk 1 ([122] : (List Int)))] : (List Api_Item)))] : (List Api_Stream)).map c_Api_Stream) .ex) M69 rfl (o_buildSlice0 (cs := [kI 2, kI 1, kI (-1), kI 1, .sl 2 (([(Api_Item.mk 0 ([120] : (List Int))), (Api_Item.mk 1 ([121] : (List Int)))] : (List Api_Item)).map c_Api_Item) .no, kI 2, kI 1, kI 1, kI 2, .sl 2 (([(Api_Item.mk 1 ([122] : (List Int)))] : (List Api_Item)).map c_Api_Item) .no]) (pcs := [.sc (.int .i64 2), .sc (.int .i64 1), .sc (.int .i64 (-1)), .sc (.int .i64 1), .sl 2 (([(Api_Item.mk 0 ([120] : (List Int))), (Api_Item.mk 1 ([121] : (List Int)))] : (List Api_Item)).map c_Api_Item), .sc (.int .i64 2), .sc (.int .i64 1), .sc (.int .i64 1), .sc (.int .i64 2), .sl 2 (([(Api_Item.mk 1 ([122] : (List Int)))] : (List Api_Item)).map c_Api_Item)]) U39 ti24 rfl (by decide) rfl rfl rf) ?_
 obtain ⟨⟨y75, y76⟩, q77, h⟩ := bs h
 refine OD (.tp [.ag (k_Api_Stream y75), kI y76]) M69 rfl (o_call (w_chain_All ([(Api_Stream.mk 2 1 (-1) 1 ([(Api_Item.mk 0 ([120] : (List Int))), (Api_Item.mk 1 ([121] : (List Int)))] : (List Api_Item))), (Api_Stream.mk 2 1 1 2 ([(Api_Item.mk 1 ([122] : (List Int)))] : (List Api_Item)))] : (List Api_Stream)) M69 q77) ⟨(.no _ _ _), trivial⟩ rf) <| OR 3 rfl ?_
 obtain ⟨M78, hM78⟩ := nM (M69 ++ [(.cells z_Api_Stream)])
 obtain ⟨e79, he79⟩ := nE (M69.length)
 refine OD (.pt e79 0) M78 rfl (by rw [he79]; exact o_alloc ti24 hM78) ?_
 have ne80 := neE he79 f70
 have ne81 := neE he79 f71
 have ne82 := neE he79 f72
 have ne83 := neE he79 f73
 have f84 := eqM hM78 (get_app f70)
 have f85 := eqM hM78 (get_app f71)
 have f86 := eqM hM78 (get_app f72)
 have f87 := eqM hM78 (get_app f73)
 have hp88 := eqP hM78 (pre_app hp74)
 have f89 := nwE hM78 he79
 have lo90 := loE he79 hp74
 obtain ⟨M91, hM91⟩ := nM (M78.set e79 (.cells (k_Api_Stream y75)))
 refine OD (undefA) M91 rfl (o_store (cs' := (k_Api_Stream y75)) ti24 rfl rfl f89 (sz _) rfl rfl rfl (Nat.le_of_ble_eq_true rfl) rfl hM91) ?_
 have f92 := eqM hM91 (get_ne ne80 f84)
 have f93 := eqM hM91 (get_ne ne81 f85)
 have f94 := eqM hM91 (get_ne ne82 f86)
 have f95 := eqM hM91 (get_ne ne83 f87)
 have f96 := eqM hM91 (get_self f89)
 have hp97 := eqP hM91 (pre_hi hp88 lo90)
 refine OR 1 rfl <| nt <| sr (by decide) <| OD (.ag (k_Api_Stream y75)) M91 rfl (o_loadPA ag24 ti24 rfl f96 (Nat.le_of_ble_eq_true rfl) rf) ?_
 obtain ⟨y98, q99, h⟩ := bs h
 refine OD (.sl 1 (y98.map (c_L 1 c_u8)) .no) M91 rfl (o_call (w_chain_Blocks y75 M91 q99) ⟨rf, trivial⟩ rf) <| OR 1 rfl <| nt <| sr (by decide) ?_
 obtain ⟨⟨y100, y101, y102⟩, q103, h⟩ := bs h
 refine OD (.tp [.sl 5 (y100.map c_Api_Stream) .no, kI y101, kI y102]) M91 rfl (o_call (w_chain_Decode ([] : (List (List Int))) M91 q103) ⟨(.nil _), trivial⟩ rf) <| OR 7 rfl <| nt ?_
 obtain ⟨t0, h, k⟩ := bs h
 refine aw_joinS (S := Bool) (G := Unit) t0 (fun s g => Frm.of [(0, kB s)]) (fun s g M => H <+: M ∧ M[e12]? = some (.cells [kI 2, kI 1, kI (-1), kI 1, .sl 2 (([(Api_Item.mk 0 ([120] : (List Int))), (Api_Item.mk 1 ([121] : (List Int)))] : (List Api_Item)).map c_Api_Item) .no]) ∧ M[e30]? = some (.cells [kI 2, kI 1, kI 1, kI 2, .sl 2 (([(Api_Item.mk 1 ([122] : (List Int)))] : (List Api_Item)).map c_Api_Item) .no]) ∧ M[e42]? = some (.cells (k_Api_Stream y)) ∧ M[e59]? = some (.cells (k_Api_Stream y55)) ∧ M[e79]? = some (.cells (k_Api_Stream y75))) ?_ ?_
 ·refine aw_region (by decide) <| OR 2 rfl ?_
  refine oT h rfl (o_move rf) (fun hg h => ?_) (fun hg h => ?_)
  ·refine OD (.ag (k_Api_Stream y)) M91 rfl (o_loadPA ag24 ti24 rfl f94 (Nat.le_of_ble_eq_true rfl) rf) <| OD (.ag (k_Api_Stream y75)) M91 rfl (o_loadPA ag24 ti24 rfl f96 (Nat.le_of_ble_eq_true rfl) rf) ?_
   obtain ⟨y111, q112, h⟩ := bs h
   refine OD (kB y111) M91 rfl (o_call (w_mementohelp_Streams y y75 M91 q112) ⟨rf, rf, trivial⟩ rf) <| OR 1 rfl ?_
   refine oT h rfl (o_move rf) (fun hg113 h => ?_) (fun hg113 h => ?_)
   ·refine OR 3 rfl ?_
    refine oT h rfl (o_move rf) (fun hg114 h => ?_) (fun hg114 h => ?_)
    ·refine OR 3 rfl ?_
     refine oT h rfl (o_move rf) (fun hg115 h => ?_) (fun hg115 h => ?_)
     ·refine OR 1 rfl <| OD (kI (y98.length : Int)) M91 rfl (o_lenL U62 rfl) <| OR 2 rfl ?_
      refine oT h rfl (o_move rf) (fun hg116 h => ?_) (fun hg116 h => ?_)
      ·refine OR 1 rfl ?_
       obtain ⟨x, qx, h⟩ := bs h
       refine OD _ M91 rfl (o_indexAddr (c := (c_L 1 c_u8)) U62 ti25 rfl rfl qx) <| OD (.sl 1 (x.map c_u8) .no) M91 rfl (o_loadE ag25 ti25 rfl rf) <| OD (.sc (.string ⟨(strOf x).toArray⟩)) M91 rfl (o_convS U25 U5 U9 rfl) <| OD (kB ((strOf x) == ([122] : List UInt8))) M91 rfl (o_eqS rfl rfl) <| OR 1 rfl ?_
       refine oT h rfl (o_move rf) (fun hg117 h => ?_) (fun hg117 h => ?_)
       ·refine OD (.ag [kI 2, kI 1, kI (-1), kI 1, .sl 2 (([(Api_Item.mk 0 ([120] : (List Int))), (Api_Item.mk 1 ([121] : (List Int)))] : (List Api_Item)).map c_Api_Item) .no]) M91 rfl (o_loadPA ag24 ti24 rfl f92 (Nat.le_of_ble_eq_true rfl) rf) <| OD (.ag [kI 2, kI 1, kI 1, kI 2, .sl 2 (([(Api_Item.mk 1 ([122] : (List Int)))] : (List Api_Item)).map c_Api_Item) .no]) M91 rfl (o_loadPA ag24 ti24 rfl f93 (Nat.le_of_ble_eq_true rfl) rf) <| OD (.sl 5 (([(Api_Stream.mk 2 1 (-1) 1 ([(Api_Item.mk 0 ([120] : (List Int))), (Api_Item.mk 1 ([121] : (List Int)))] : (List Api_Item))), (Api_Stream.mk 2 1 1 2 ([(Api_Item.mk 1 ([122] : (List Int)))] : (List Api_Item)))] : (List Api_Stream)).map c_Api_Stream) .ex) M91 rfl (o_buildSlice0 (cs := [kI 2, kI 1, kI (-1), kI 1, .sl 2 (([(Api_Item.mk 0 ([120] : (List Int))), (Api_Item.mk 1 ([121] : (List Int)))] : (List Api_Item)).map c_Api_Item) .no, kI 2, kI 1, kI 1, kI 2, .sl 2 (([(Api_Item.mk 1 ([122] : (List Int)))] : (List Api_Item)).map c_Api_Item) .no]) (pcs := [.sc (.int .i64 2), .sc (.int .i64 1), .sc (.int .i64 (-1)), .sc (.int .i64 1), .sl 2 (([(Api_Item.mk 0 ([120] : (List Int))), (Api_Item.mk 1 ([121] : (List Int)))] : (List Api_Item)).map c_Api_Item), .sc (.int .i64 2), .sc (.int .i64 1), .sc (.int .i64 1), .sc (.int .i64 2), .sl 2 (([(Api_Item.mk 1 ([122] : (List Int)))] : (List Api_Item)).map c_Api_Item)]) U39 ti24 rfl (by decide) rfl rfl rf) ?_
        obtain ⟨y118, q119, h⟩ := bs h
        refine OD (kB y118) M91 rfl (o_call (w_chain_Right ([(Api_Stream.mk 2 1 (-1) 1 ([(Api_Item.mk 0 ([120] : (List Int))), (Api_Item.mk 1 ([121] : (List Int)))] : (List Api_Item))), (Api_Stream.mk 2 1 1 2 ([(Api_Item.mk 1 ([122] : (List Int)))] : (List Api_Item)))] : (List Api_Stream)) M91 q119) ⟨(.no _ _ _), trivial⟩ rf) <| OR 1 rfl ?_
        refine oT h rfl (o_move rf) (fun hg120 h => ?_) (fun hg120 h => ?_)
        ·refine OD (.ag [kI 2, kI 1, kI 1, kI 2, .sl 2 (([(Api_Item.mk 1 ([122] : (List Int)))] : (List Api_Item)).map c_Api_Item) .no]) M91 rfl (o_loadPA ag24 ti24 rfl f93 (Nat.le_of_ble_eq_true rfl) rf) <| OD (.sl 5 (([(Api_Stream.mk 2 1 1 2 ([(Api_Item.mk 1 ([122] : (List Int)))] : (List Api_Item)))] : (List Api_Stream)).map c_Api_Stream) .ex) M91 rfl (o_buildSlice0 (cs := [kI 2, kI 1, kI 1, kI 2, .sl 2 (([(Api_Item.mk 1 ([122] : (List Int)))] : (List Api_Item)).map c_Api_Item) .no]) (pcs := [.sc (.int .i64 2), .sc (.int .i64 1), .sc (.int .i64 1), .sc (.int .i64 2), .sl 2 (([(Api_Item.mk 1 ([122] : (List Int)))] : (List Api_Item)).map c_Api_Item)]) U39 ti24 rfl (by decide) rfl rfl rf) ?_
         obtain ⟨y121, q122, h⟩ := bs h
         refine OD (kB y121) M91 rfl (o_call (w_chain_Right ([(Api_Stream.mk 2 1 1 2 ([(Api_Item.mk 1 ([122] : (List Int)))] : (List Api_Item)))] : (List Api_Stream)) M91 q122) ⟨(.no _ _ _), trivial⟩ rf) <| OR 2 rfl ?_
         refine oT h rfl (o_move rf) (fun hg123 h => ?_) (fun hg123 h => ?_)
         ·refine OD (.ag [kI 2, kI 1, kI (-1), kI 1, .sl 2 (([(Api_Item.mk 0 ([120] : (List Int))), (Api_Item.mk 1 ([121] : (List Int)))] : (List Api_Item)).map c_Api_Item) .no]) M91 rfl (o_loadPA ag24 ti24 rfl f92 (Nat.le_of_ble_eq_true rfl) rf) <| OD (.ag [kI 2, kI 1, kI 1, kI 2, .sl 2 (([(Api_Item.mk 1 ([122] : (List Int)))] : (List Api_Item)).map c_Api_Item) .no]) M91 rfl (o_loadPA ag24 ti24 rfl f93 (Nat.le_of_ble_eq_true rfl) rf) ?_
          obtain ⟨y124, q125, h⟩ := bs h
          refine OD (kB y124) M91 rfl (o_call (w_chain_Follows (Api_Stream.mk 2 1 (-1) 1 ([(Api_Item.mk 0 ([120] : (List Int))), (Api_Item.mk 1 ([121] : (List Int)))] : (List Api_Item))) (Api_Stream.mk 2 1 1 2 ([(Api_Item.mk 1 ([122] : (List Int)))] : (List Api_Item))) M91 q125) ⟨rf, rf, trivial⟩ rf) <| OR 1 rfl ?_
          refine oT h rfl (o_move rf) (fun hg126 h => ?_) (fun hg126 h => ?_)
          ·refine OR 3 rfl ?_
           refine oT h rfl (o_move rf) (fun hg127 h => ?_) (fun hg127 h => ?_)
           ·refine OR 4 rfl <| OpsS_nil ?_
            obtain rfl := sI h
            exact thenQ_n ⟨(), M91, ⟨hp97, f92, f93, f94, f95, f96⟩, flr rfl⟩
           ·refine OR 4 rfl <| OpsS_nil ?_
            obtain rfl := sI h
            exact thenQ_n ⟨(), M91, ⟨hp97, f92, f93, f94, f95, f96⟩, flr rfl⟩
          ·refine OR 8 rfl <| OpsS_nil ?_
           obtain rfl := sI h
           exact thenQ_n ⟨(), M91, ⟨hp97, f92, f93, f94, f95, f96⟩, flr rfl⟩
         ·refine OR 13 rfl <| OpsS_nil ?_
          obtain rfl := sI h
          exact thenQ_n ⟨(), M91, ⟨hp97, f92, f93, f94, f95, f96⟩, flr rfl⟩
        ·refine OR 19 rfl <| OpsS_nil ?_
         obtain rfl := sI h
         exact thenQ_n ⟨(), M91, ⟨hp97, f92, f93, f94, f95, f96⟩, flr rfl⟩
       ·refine OR 25 rfl <| OpsS_nil ?_
        obtain rfl := sI h
        exact thenQ_n ⟨(), M91, ⟨hp97, f92, f93, f94, f95, f96⟩, flr rfl⟩
      ·refine OR 32 rfl <| OpsS_nil ?_
       obtain rfl := sI h
       exact thenQ_n ⟨(), M91, ⟨hp97, f92, f93, f94, f95, f96⟩, flr rfl⟩
     ·refine OR 37 rfl <| OpsS_nil ?_
      obtain rfl := sI h
      exact thenQ_n ⟨(), M91, ⟨hp97, f92, f93, f94, f95, f96⟩, flr rfl⟩
    ·refine OR 41 rfl <| OpsS_nil ?_
     obtain rfl := sI h
     exact thenQ_n ⟨(), M91, ⟨hp97, f92, f93, f94, f95, f96⟩, flr rfl⟩
   ·refine OR 45 rfl <| OpsS_nil ?_
    obtain rfl := sI h
    exact thenQ_n ⟨(), M91, ⟨hp97, f92, f93, f94, f95, f96⟩, flr rfl⟩
  ·refine OR 50 rfl <| OpsS_nil ?_
   obtain rfl := sI h
   exact thenQ_n ⟨(), M91, ⟨hp97, f92, f93, f94, f95, f96⟩, flr rfl⟩
 ·rintro ⟨⟩ M104 ⟨hp105, f106, f107, f108, f109, f110⟩
  have h := k
  refine aw_ret ?_
  obtain rfl := sI h
  exact done_tmp rfl rf hp105
set_option maxHeartbeats 4000000 in
theorem w_mementoref16_Machine_find (pm : Nat) (m : Mementoref16_Machine) (id : Int) (H : Mem) {r : Int} (h : mementoref16_Machine_find m id = some r) (fpm0 : H[pm]? = some (.cells [.sl 11 (m.L.map c_Api_Volume) .no])) : ACalls Try.prog 55 [.pt pm 0, kI id] H (fun r' H' => r' = kI r ∧ H' = H) := by
 unfold mementoref16_Machine_find at h
 refine ACalls.done0 rfl ?_
 refine acalls_walk Try.func55 rfl cl55 (by simp [Try.ntmps55]) (fun hB => ?_)
 refine aw_reb (Reb.of (l := [(0, .pt pm 0), (1, kI id)]) (by simp [FrL, afr0])) ?_
 have fpm := fpm0
 have hpre : H <+: H := List.prefix_refl _
 refine sr (by decide) <| OR 1 rfl <| nt <| aw_seq <| sr (by decide) ?_
 refine OR 1 rfl <| nt ?_
 obtain ⟨vc, h, k⟩ := kont_some h
 refine aw_tailD (S := Unit) (G := Unit) vc (fun s g => Frm.of []) (fun s g M => H <+: M ∧ M[pm]? = some (.cells [.sl 11 (m.L.map c_Api_Volume) .no])) ?_ ?_
 ·refine aw_block ?_
  refine aw_loopD (S := Int) (G := Unit) (H1 := H) h (fun s g => Frm.of [(0, .pt pm 0), (1, kI id), (5, kI s)]) (fun s g M => H <+: M ∧ M[pm]? = some (.cells [.sl 11 (m.L.map c_Api_Volume) .no])) () ⟨hpre, fpm⟩ (flr rfl) ?_
  intro i7 g1 M8 vc12 hI h k11
  obtain ⟨⟩ := g1
  obtain ⟨hp9, f10⟩ := hI
  unfold mementoref16_Machine_find_L1 at h
  refine aw_seq <| sr (by decide) <| OR 2 rfl <| OD (.pt pm 0) M8 rfl (o_nilCheck rfl rf) <| OD _ M8 rfl (o_fieldAddrP (fo := 0) U45 rfl ti43 (sz _) rfl) <| OD _ M8 rfl (o_loadP ag43 ti43 rfl f10 rfl rf) <| OD (kI (m.L.length : Int)) M8 rfl (o_lenL U43 rfl) ?_
  refine OR 1 rfl <| nt ?_
  refine aT h rfl (fun hb h => ?_) (fun hb h => ?_)
  ·refine aw_skip <| thenQ_n <| aw_seq <| aw_block <| sr (by decide) <| OR 1 rfl <| OD (.pt pm 0) M8 rfl (o_nilCheck rfl rf) ?_
   refine OD _ M8 rfl (o_fieldAddrP (fo := 0) U45 rfl ti43 (sz _) rfl) <| OD _ M8 rfl (o_loadP ag43 ti43 rfl f10 rfl rf) <| OR 1 rfl ?_
   obtain ⟨x, qx, h⟩ := bs h
   refine OD _ M8 rfl (o_indexAddr (c := c_Api_Volume) U43 ti49 rfl rfl qx) <| OD _ M8 rfl (o_fieldAddrE (fo := 0) U49 rfl ti3 (sz _) rfl) <| OD (kI x.Id) M8 rfl (o_loadE ag3 ti3 rfl rf) <| OR 2 rfl <| nt ?_
   refine aT h rfl (fun hb13 h => ?_) (fun hb13 h => ?_)
   ·refine sr (by decide) <| OR 2 rfl <| nt <| aw_ret <| blockQ_ret <| thenQ_ret ?_
    refine thenQ_ret ?_
    have h := early_ret h k11
    refine blockQ_ret <| thenQ_ret ?_
    have h := early_some h k
    refine thenQ_ret ?_
    obtain rfl := sI h
    exact done_tmp rfl rf hp9
   ·refine aw_skip <| blockQ_n <| thenQ_n <| aw_region (by decide) <| OR 3 rfl <| OpsS_nil ?_
    exact thenQ_n ⟨(w64 (i7 + 1)), (), M8, (Option.some.inj h).symm, ⟨hp9, f10⟩, flr rfl⟩
  ·refine aw_exit <| thenQ_exit <| thenQ_exit ?_
   have h := early_ret h k11
   refine blockQ_exit ?_
   exact thenQ_n ⟨(), (), M8, (Option.some.inj h).symm, ⟨hp9, f10⟩, Reb.fl trivial⟩
 ·rintro ⟨⟩ ⟨⟩ M rfl ⟨hp, f⟩
  have h := kont_go k
  refine thenQ_n <| sr (by decide) <| OR 1 rfl <| nt <| aw_ret ?_
  obtain rfl := sI h
  exact done_tmp rfl rf hp
set_option maxHeartbeats 4000000 in
theorem w_mementoref16_Machine_Volume (pm : Nat) (m : Mementoref16_Machine) (id : Int) (H : Mem) {r : (Api_Volume × Bool)} (h : mementoref16_Machine_Volume m id = some r) (fpm0 : H[pm]? = some (.cells [.sl 11 (m.L.map c_Api_Volume) .no])) : ACalls Try.prog 20 [.pt pm 0, kI id] H (fun r' H' => r' = .tp [.ag (k_Api_Volume r.1), kB r.2] ∧ H' = H) := by
 unfold mementoref16_Machine_Volume at h
 refine ACalls.done0 rfl ?_
 refine acalls_walk Try.func20 rfl cl20 (by simp [Try.ntmps20]) (fun hB => ?_)
 refine aw_reb (Reb.of (l := [(0, .pt pm 0), (1, kI id)]) (by simp [FrL, afr0])) ?_
 have fpm := fpm0
 have hpre : H <+: H := List.prefix_refl _
 refine sr (by decide) ?_
 obtain ⟨M, hM⟩ := nM (H ++ [(.cells z_Api_Volume)])
 obtain ⟨e, he⟩ := nE (H.length)
 refine OD (.pt e 0) M rfl (by rw [he]; exact o_alloc ti49 hM) ?_
 have ne := neE he fpm
 have f := eqM hM (get_app fpm)
 have hp := eqP hM (pre_app hpre)
 have f1 := nwE hM he
 have lo := loE he hpre
 refine OR 1 rfl <| nt <| sr (by decide) <| OR 2 rfl ?_
 obtain ⟨y, q, h⟩ := bs h
 refine OD (kI y) M rfl (o_call (w_mementoref16_Machine_find pm m id M q f) ⟨.refl _, rf, trivial⟩ rf) <| OR 1 rfl <| nt <| aw_seq <| sr (by decide) <| OR 2 rfl ?_
 refine nt ?_
 refine aT h rfl (fun hb h => ?_) (fun hb h => ?_)
 ·refine sr (by decide) <| OD (.ag z_Api_Volume) M rfl (o_build (pl := pl49) (cs := z_Api_Volume) ti49 U49 (fp49 _ U49) (fa49 _ U49) rfl rf) ?_
  obtain ⟨M2, hM2⟩ := nM (M.set e (.cells z_Api_Volume))
  refine OD (undefA) M2 rfl (o_store (cs' := z_Api_Volume) ti49 rfl rfl f1 (sz _) rfl rfl rfl (Nat.le_of_ble_eq_true rfl) rfl hM2) ?_
  have f3 := eqM hM2 (get_ne ne f)
  have f4 := eqM hM2 (get_self f1)
  have hp5 := eqP hM2 (pre_hi hp lo)
  refine OR 1 rfl <| nt <| aw_ret <| thenQ_ret ?_
  obtain rfl := sI h
  exact done_list (avs := [.ag z_Api_Volume, kB false]) rfl (by simp) (ar_cellA (r := .ag z_Api_Volume) ag49 ti49 rfl f4 (Nat.le_of_ble_eq_true rfl) rfl (ar_tmp rfl ar_nil)) (.tup ⟨(.agg ⟨rf, rf, rf, rf, (.nil _), rf, rf, rf, rf, (.nil _), (.nil _), trivial⟩), rf, trivial⟩) hp5
 ·refine aw_skip <| thenQ_n <| sr (by decide) <| OR 1 rfl <| OD (.pt pm 0) M rfl (o_nilCheck rfl rf) <| OD _ M rfl (o_fieldAddrP (fo := 0) U45 rfl ti43 (sz _) rfl) <| OD _ M rfl (o_loadP ag43 ti43 rfl f rfl rf) ?_
  refine OR 1 rfl ?_
  obtain ⟨x, qx, h⟩ := bs h
  refine OD _ M rfl (o_indexAddr (c := c_Api_Volume) U43 ti49 rfl rfl qx) <| OD (.ag (k_Api_Volume x)) M rfl (o_loadEA ag49 ti49 rfl (Nat.le_of_ble_eq_true rfl) rf) ?_
  obtain ⟨M6, hM6⟩ := nM (M.set e (.cells (k_Api_Volume x)))
  refine OD (undefA) M6 rfl (o_store (cs' := (k_Api_Volume x)) ti49 rfl rfl f1 (sz _) rfl rfl rfl (Nat.le_of_ble_eq_true rfl) rfl hM6) ?_
  have f7 := eqM hM6 (get_ne ne f)
  have f8 := eqM hM6 (get_self f1)
  have hp9 := eqP hM6 (pre_hi hp lo)
  refine OR 1 rfl <| nt <| aw_ret ?_
  obtain rfl := sI h
  exact done_list (avs := [.ag (k_Api_Volume x), kB true]) rfl (by simp) (ar_cellA (r := .ag (k_Api_Volume x)) ag49 ti49 rfl f8 (Nat.le_of_ble_eq_true rfl) rfl (ar_tmp rfl ar_nil)) (.tup ⟨rf, rf, trivial⟩) hp9
set_option maxHeartbeats 4000000 in
theorem w_mementoref16_Chunks (blocks : Int) (per : Int) (H : Mem) {r : Int} (h : mementoref16_Chunks blocks per = some r) : ACalls Try.prog 51 [kI blocks, kI per] H (fun r' H' => r' = kI r ∧ H' = H) := by
 unfold mementoref16_Chunks at h
 refine ACalls.done0 rfl ?_
 refine acalls_walk Try.func51 rfl cl51 (by simp [Try.ntmps51]) (fun hB => ?_)
 refine aw_reb (Reb.of (l := [(0, kI blocks), (1, kI per)]) (by simp [FrL, afr0])) ?_
 have hpre : H <+: H := List.prefix_refl _
 refine sr (by decide) <| OR 1 rfl <| nt <| sr (by decide) <| OR 5 rfl ?_
 obtain ⟨x, qx, h⟩ := bs h
 refine OD (kI x) H rfl (o_quo rfl rfl qx) <| OR 1 rfl <| nt <| aw_ret ?_
 obtain rfl := sI h
 exact done_tmp rfl rf hpre
set_option maxHeartbeats 4000000 in
theorem w_mementoseat_Create (vol : Int) (blocks : Int) (size : Int) (per : Int) (total : Int) (H : Mem) {r : Api_VolCmd} (h : mementoseat_Create vol blocks size per total = some r) : ACalls Try.prog 93 [kY vol, kY blocks, kY size, kY per, kI total] H (fun r' H' => r' = .ag (k_Api_VolCmd r) ∧ H' = H) := by
 unfold mementoseat_Create at h
 refine ACalls.done0 rfl ?_
 refine acalls_walk Try.func93 rfl cl93 (by simp [Try.ntmps93]) (fun hB => ?_)
 refine aw_reb (Reb.of (l := [(0, kY vol), (1, kY blocks), (2, kY size), (3, kY per), (4, kI total)]) (by simp [FrL, afr0])) ?_
 have hpre : H <+: H := List.prefix_refl _
 refine sr (by decide) ?_
 obtain ⟨M, hM⟩ := nM (H ++ [(.cells z_Api_VolCmd)])
 obtain ⟨e, he⟩ := nE (H.length)
 refine OD (.pt e 0) M rfl (by rw [he]; exact o_alloc ti57 hM) ?_
 have hp := eqP hM (pre_app hpre)
 have f := nwE hM he
 have lo := loE he hpre
 refine nt <| sr (by decide) <| OR 2 rfl <| OD (kI (w64 (Int.tmod vol 3))) M rfl (o_convI U5 U3 rfl) <| OR 2 rfl <| OD (kI (w64 (Int.tmod blocks 9))) M rfl (o_convI U5 U3 rfl) ?_
 refine OR 3 rfl <| OD (kI (w64 (Int.tmod size 3))) M rfl (o_convI U5 U3 rfl) <| OR 2 rfl <| OD (.ag [kI 1, kI (w64 (Int.tmod vol 3)), kI (w64 ((w64 (Int.tmod blocks 9)) + 1)), kI (w64 ((w64 (Int.tmod size 3)) + 1)), kI 0, .sc (.slice none 0 0), kI total, kI 0, kI 0, .sc (.slice none 0 0)]) M rfl (o_build (pl := pl57) (cs := [kI 1, kI (w64 (Int.tmod vol 3)), kI (w64 ((w64 (Int.tmod blocks 9)) + 1)), kI (w64 ((w64 (Int.tmod size 3)) + 1)), kI 0, .sc (.slice none 0 0), kI total, kI 0, kI 0, .sc (.slice none 0 0)]) ti57 U57 (fp57 _ U57) (fa57 _ U57) rfl rf) ?_
 obtain ⟨M1, hM1⟩ := nM (M ++ [(.cells z_Api_VolCmd)])
 obtain ⟨e2, he2⟩ := nE (M.length)
 refine OD (.pt e2 0) M1 rfl (by rw [he2]; exact o_alloc ti57 hM1) ?_
 have ne := neE he2 f
 have f3 := eqM hM1 (get_app f)
 have hp4 := eqP hM1 (pre_app hp)
 have f5 := nwE hM1 he2
 have lo6 := loE he2 hp
 obtain ⟨M7, hM7⟩ := nM (M1.set e2 (.cells [kI 1, kI (w64 (Int.tmod vol 3)), kI (w64 ((w64 (Int.tmod blocks 9)) + 1)), kI (w64 ((w64 (Int.tmod size 3)) + 1)), kI 0, .sc (.slice none 0 0), kI total, kI 0, kI 0, .sc (.slice none 0 0)]))
 refine OD (undefA) M7 rfl (o_store (cs' := [kI 1, kI (w64 (Int.tmod vol 3)), kI (w64 ((w64 (Int.tmod blocks 9)) + 1)), kI (w64 ((w64 (Int.tmod size 3)) + 1)), kI 0, .sc (.slice none 0 0), kI total, kI 0, kI 0, .sc (.slice none 0 0)]) ti57 rfl rfl f5 (sz _) rfl rfl rfl (Nat.le_of_ble_eq_true rfl) rfl hM7) ?_
 have f8 := eqM hM7 (get_ne ne f3)
 have f9 := eqM hM7 (get_self f5)
 have hp10 := eqP hM7 (pre_hi hp4 lo6)
 refine nt <| sr (by decide) <| OR 1 rfl <| OD (kI (w64 per)) M7 rfl (o_convI U5 U3 rfl) <| OD _ M7 rfl (o_fieldAddrP (fo := 2) U57 rfl ti3 (sz _) rfl) <| OD _ M7 rfl (o_loadP ag3 ti3 rfl f9 rfl rf) ?_
 obtain ⟨x, qx, h⟩ := bs h
 refine OD (kI x) M7 rfl (o_rem rfl rfl qx) <| OR 1 rfl <| OD _ M7 rfl (o_fieldAddrP (fo := 4) U57 rfl ti3 (sz _) rfl) ?_
 obtain ⟨M11, hM11⟩ := nM (M7.set e2 (.cells [kI 1, kI (w64 (Int.tmod vol 3)), kI (w64 ((w64 (Int.tmod blocks 9)) + 1)), kI (w64 ((w64 (Int.tmod size 3)) + 1)), kI (w64 (x + 1)), .sc (.slice none 0 0), kI total, kI 0, kI 0, .sc (.slice none 0 0)]))
 refine OD (undefA) M11 rfl (o_store (cs' := [kI 1, kI (w64 (Int.tmod vol 3)), kI (w64 ((w64 (Int.tmod blocks 9)) + 1)), kI (w64 ((w64 (Int.tmod size 3)) + 1)), kI (w64 (x + 1)), .sc (.slice none 0 0), kI total, kI 0, kI 0, .sc (.slice none 0 0)]) ti3 rfl rfl f9 (sz _) rfl rfl rfl (Nat.le_of_ble_eq_true rfl) rfl hM11) ?_
 have f12 := eqM hM11 (get_ne ne f8)
 have f13 := eqM hM11 (get_self f9)
 have hp14 := eqP hM11 (pre_hi hp10 lo6)
 refine nt <| aw_seq <| sr (by decide) <| OR 1 rfl <| nt ?_
 obtain ⟨me2_Place, h, k⟩ := bs h
 refine aw_tailS (S := (List Int)) (G := Nat) me2_Place (fun s g => Frm.of [(10, .pt e 0), (11, .pt e2 0)]) (fun s g M => H <+: M ∧ M[e]? = some (.cells z_Api_VolCmd) ∧ M[e2]? = some (.cells [kI 1, kI (w64 (Int.tmod vol 3)), kI (w64 ((w64 (Int.tmod blocks 9)) + 1)), kI (w64 ((w64 (Int.tmod size 3)) + 1)), kI (w64 (x + 1)), .sl 1 (s.map c_i64) (.tk g), kI total, kI 0, kI 0, .sc (.slice none 0 0)]) ∧ M[g]? = some .tok ∧ H.length ≤ g) ?_ ?_
 ·refine aw_block ?_
  refine aw_loopD (S := (Int × (List Int))) (G := Nat) (H1 := (M11.set e2 (.cells [kI 1, kI (w64 (Int.tmod vol 3)), kI (w64 ((w64 (Int.tmod blocks 9)) + 1)), kI (w64 ((w64 (Int.tmod size 3)) + 1)), kI (w64 (x + 1)), .sl 1 (([] : (List Int)).map c_i64) (.tk M11.length), kI total, kI 0, kI 0, .sc (.slice none 0 0)]) ++ [Ent.tok])) h (fun s g => Frm.of [(3, kY per), (10, .pt e 0), (11, .pt e2 0), (12, kI s.1)]) (fun s g M => H <+: M ∧ M[e]? = some (.cells z_Api_VolCmd) ∧ M[e2]? = some (.cells [kI 1, kI (w64 (Int.tmod vol 3)), kI (w64 ((w64 (Int.tmod blocks 9)) + 1)), kI (w64 ((w64 (Int.tmod size 3)) + 1)), kI (w64 (x + 1)), .sl 1 (s.2.map c_i64) (.tk g), kI total, kI 0, kI 0, .sc (.slice none 0 0)]) ∧ M[g]? = some .tok ∧ H.length ≤ g) M11.length ⟨(pre_app (pre_hi hp14 lo6)), (get_app (get_ne ne f12)), (get_app (get_self f13)), get_new2, (pre_len hp14)⟩ (Reb.trans (Reb.voidm (cs' := [kI 1, kI (w64 (Int.tmod vol 3)), kI (w64 ((w64 (Int.tmod blocks 9)) + 1)), kI (w64 ((w64 (Int.tmod size 3)) + 1)), kI (w64 (x + 1)), .sl 1 (([] : (List Int)).map c_i64) (.tk M11.length), kI total, kI 0, kI 0, .sc (.slice none 0 0)]) f13 ⟨.of rf, .of rf, .of rf, .of rf, .of rf, .nil _ _, .of rf, .of rf, .of rf, .of rf, trivial⟩) (flr rfl)) ?_
  intro s1 gme2_Place35 M36 vc hI h k42
  obtain ⟨i33, me2_Place34⟩ := s1
  obtain ⟨hp37, f38, f39, f40, lo41⟩ := hI
  unfold mementoseat_Create_L1 at h
  refine aw_seq <| sr (by decide) <| OR 1 rfl <| OD _ M36 rfl (o_fieldAddrP (fo := 2) U57 rfl ti3 (sz _) rfl) <| OD _ M36 rfl (o_loadP ag3 ti3 rfl f39 rfl rf) <| OD _ M36 rfl (o_fieldAddrP (fo := 4) U57 rfl ti3 (sz _) rfl) <| OD _ M36 rfl (o_loadP ag3 ti3 rfl f39 rfl rf) ?_
  obtain ⟨y, q, h⟩ := bs h
  refine OD (kI y) M36 rfl (o_call (w_mementoref16_Chunks (w64 ((w64 (Int.tmod blocks 9)) + 1)) (w64 (x + 1)) M36 q) ⟨rf, rf, trivial⟩ rf) <| OR 1 rfl <| nt ?_
  refine aT h rfl (fun hb h => ?_) (fun hb h => ?_)
  ·refine aw_skip <| thenQ_n <| aw_seq <| aw_block <| aw_region (by decide) <| OD _ M36 rfl (o_fieldAddrP (fo := 5) U57 rfl ti26 (sz _) rfl) <| OD _ M36 rfl (o_loadP ag26 ti26 rfl f39 rfl rf) <| OR 2 rfl ?_
   refine OD (kI (w64 per)) M36 rfl (o_convI U5 U3 rfl) <| OR 3 rfl <| OD (.sl 1 (([(w64 (1 + (Int.tmod (w64 (i33 + (w64 per))) 2)))] : (List Int)).map c_i64) .ex) M36 rfl (o_buildSlice0 (cs := [kI (w64 (1 + (Int.tmod (w64 (i33 + (w64 per))) 2)))]) (pcs := [.sc (.int .i64 (w64 (1 + (Int.tmod (w64 (i33 + (w64 per))) 2))))]) U26 ti3 rfl (by decide) rfl rfl rf) ?_
   obtain ⟨m, qm, h⟩ := bs h
   obtain ⟨M43, hM43⟩ := nM (M36.set gme2_Place35 .dead ++ [.tok])
   obtain ⟨e44, he44⟩ := nE (M36.length)
   refine OD (.sl 1 (m.map c_i64) (.tk e44)) M43 rfl (by rw [he44]; exact o_appT (c := c_i64) rfl f40 (src_sl rfl) U26 ti3 rfl (by simp [sliceStr, U26]) qm hM43) ?_
   have ne45 := neE he44 f38
   have f46 := eqM hM43 (get_app (get_ne (tok_ne f38 f40) f38))
   have ne47 := neE he44 f39
   have f48 := eqM hM43 (get_app (get_ne (tok_ne f39 f40) f39))
   have hp49 := eqP hM43 (pre_app (pre_hi hp37 lo41))
   have f50 : M43[e44]? = some .tok := by rw [hM43, he44]; exact get_new2
   have lo51 := loE he44 hp37
   refine OD _ M43 rfl (o_fieldAddrP (fo := 5) U57 rfl ti26 (sz _) rfl) ?_
   obtain ⟨M52, hM52⟩ := nM (M43.set e2 (.cells [kI 1, kI (w64 (Int.tmod vol 3)), kI (w64 ((w64 (Int.tmod blocks 9)) + 1)), kI (w64 ((w64 (Int.tmod size 3)) + 1)), kI (w64 (x + 1)), .sl 1 (m.map c_i64) (.tk e44), kI total, kI 0, kI 0, .sc (.slice none 0 0)]))
   refine OD (undefA) M52 rfl (o_store (cs' := [kI 1, kI (w64 (Int.tmod vol 3)), kI (w64 ((w64 (Int.tmod blocks 9)) + 1)), kI (w64 ((w64 (Int.tmod size 3)) + 1)), kI (w64 (x + 1)), .sl 1 (m.map c_i64) (.tk e44), kI total, kI 0, kI 0, .sc (.slice none 0 0)]) ti26 rfl rfl f48 (sz _) rfl rfl rfl (Nat.le_of_ble_eq_true rfl) rfl hM52) ?_
   have f53 := eqM hM52 (get_ne ne f46)
   have f54 := eqM hM52 (get_self f48)
   have f55 := eqM hM52 (get_ne (Ne.symm (tok_ne f48 f50)) f50)
   have hp56 := eqP hM52 (pre_hi hp49 lo6)
   refine OpsS_nil <| blockQ_n <| thenQ_n <| aw_region (by decide) <| OR 3 rfl <| OpsS_nil ?_
   exact thenQ_n ⟨((w64 (i33 + 1)), m), e44, M52, (Option.some.inj h).symm, ⟨hp56, f53, f54, f55, lo51⟩, flr rfl⟩
  ·refine aw_exit <| thenQ_exit <| thenQ_exit ?_
   have h := early_ret h k42
   refine blockQ_exit ?_
   obtain rfl := sI h
   exact thenQ_n ⟨gme2_Place35, M36, ⟨hp37, f38, f39, f40, lo41⟩, flr rfl⟩
 ·rintro gme2_Place M15 ⟨hp16, f17, f18, f19, lo20⟩
  have h := k
  refine thenQ_n <| sr (by decide) <| OD (.ag [kI 1, kI (w64 (Int.tmod vol 3)), kI (w64 ((w64 (Int.tmod blocks 9)) + 1)), kI (w64 ((w64 (Int.tmod size 3)) + 1)), kI (w64 (x + 1)), .sl 1 (me2_Place.map c_i64) .no, kI total, kI 0, kI 0, .sl 2 (([] : (List Api_Item)).map c_Api_Item) .no]) M15 rfl (o_loadPA ag57 ti57 rfl f18 (Nat.le_of_ble_eq_true rfl) (.agg ⟨rf, rf, rf, rf, rf, (.no _ _ _), rf, rf, rf, (.nil _), trivial⟩)) ?_
  obtain ⟨M57, hM57⟩ := nM (M15.set e (.cells [kI 1, kI (w64 (Int.tmod vol 3)), kI (w64 ((w64 (Int.tmod blocks 9)) + 1)), kI (w64 ((w64 (Int.tmod size 3)) + 1)), kI (w64 (x + 1)), .sl 1 (me2_Place.map c_i64) .no, kI total, kI 0, kI 0, .sl 2 (([] : (List Api_Item)).map c_Api_Item) .no]))
  refine OD (undefA) M57 rfl (o_store (cs' := [kI 1, kI (w64 (Int.tmod vol 3)), kI (w64 ((w64 (Int.tmod blocks 9)) + 1)), kI (w64 ((w64 (Int.tmod size 3)) + 1)), kI (w64 (x + 1)), .sl 1 (me2_Place.map c_i64) .no, kI total, kI 0, kI 0, .sl 2 (([] : (List Api_Item)).map c_Api_Item) .no]) ti57 rfl rfl f17 (sz _) rfl rfl rfl (Nat.le_of_ble_eq_true rfl) rfl hM57) ?_
  have f58 := eqM hM57 (get_self f17)
  have f59 := eqM hM57 (get_ne (Ne.symm ne) f18)
  have f60 := eqM hM57 (get_ne (Ne.symm (tok_ne f17 f19)) f19)
  have hp61 := eqP hM57 (pre_hi hp16 lo)
  refine nt <| aw_ret ?_
  obtain rfl := sI h
  exact done_one rfl (ar_cellA (r := .ag [kI 1, kI (w64 (Int.tmod vol 3)), kI (w64 ((w64 (Int.tmod blocks 9)) + 1)), kI (w64 ((w64 (Int.tmod size 3)) + 1)), kI (w64 (x + 1)), .sl 1 (me2_Place.map c_i64) .no, kI total, kI 0, kI 0, .sl 2 (([] : (List Api_Item)).map c_Api_Item) .no]) ag57 ti57 rfl f58 (Nat.le_of_ble_eq_true rfl) rfl ar_nil) rf hp61
set_option maxHeartbeats 4000000 in
theorem w_mementoseat_Data (size : Int) (k : Int) (H : Mem) {r : (List Int)} (h : mementoseat_Data size k = some r) : ACalls Try.prog 139 [kI size, kY k] H (fun r' H' => r' = .sl 1 (r.map c_u8) .no ∧ H' = H) := by
 unfold mementoseat_Data at h
 refine ACalls.done0 rfl ?_
 refine acalls_walk Try.func139 rfl cl139 (by simp [Try.ntmps139]) (fun hB => ?_)
 refine aw_reb (Reb.of (l := [(0, kI size), (1, kY k)]) (by simp [FrL, afr0])) ?_
 have hpre : H <+: H := List.prefix_refl _
 refine sr (by decide) <| OR 1 rfl <| nt <| sr (by decide) <| OR 1 rfl ?_
 refine nt <| aw_seq <| sr (by decide) <| OR 1 rfl <| nt ?_
 obtain ⟨b, h, k1⟩ := bs h
 refine aw_tailS (S := (List Int)) (G := Nat) b (fun s g => Frm.of [(5, .sl 1 (s.map c_u8) (.tk g))]) (fun s g M => H <+: M ∧ M[g]? = some .tok ∧ H.length ≤ g) ?_ ?_
 ·refine aw_block ?_
  refine aw_loopD (S := ((List Int) × Int)) (G := Nat) (H1 := (H ++ [Ent.tok])) h (fun s g => Frm.of [(0, kI size), (1, kY k), (5, .sl 1 (s.1.map c_u8) (.tk g)), (6, kI s.2)]) (fun s g M => H <+: M ∧ M[g]? = some .tok ∧ H.length ≤ g) H.length ⟨(pre_app hpre), get_new, (pre_len hpre)⟩ (Reb.trans (Reb.void (l := [(0, kI size), (1, kY k), (5, .sl 1 (([] : (List Int)).map c_u8) (.tk H.length)), (6, kI 0)]) ⟨.of rf, .of rf, .nil _ _, .of rf, trivial⟩) (flr rfl)) ?_
  intro s1 gb11 M13 vc hI h k17
  obtain ⟨b10, i12⟩ := s1
  obtain ⟨hp14, f15, lo16⟩ := hI
  unfold mementoseat_Data_L1 at h
  refine aw_seq <| sr (by decide) <| OR 3 rfl <| nt ?_
  refine aT h rfl (fun hb h => ?_) (fun hb h => ?_)
  ·refine aw_skip <| thenQ_n <| aw_seq <| aw_block <| aw_region (by decide) <| OR 3 rfl <| OD (kY (IntKind.wrap .u8 i12)) M13 rfl (o_convI U3 U5 rfl) <| OR 2 rfl ?_
   refine OD (.sl 1 (([(IntKind.wrap .u8 (k + (IntKind.wrap .u8 ((IntKind.wrap .u8 i12) * 7))))] : (List Int)).map c_u8) .ex) M13 rfl (o_buildSlice0 (cs := [kY (IntKind.wrap .u8 (k + (IntKind.wrap .u8 ((IntKind.wrap .u8 i12) * 7))))]) (pcs := [.sc (.int .u8 (IntKind.wrap .u8 (k + (IntKind.wrap .u8 ((IntKind.wrap .u8 i12) * 7)))))]) U25 ti5 rfl (by decide) rfl rfl rf) ?_
   obtain ⟨m, qm, h⟩ := bs h
   obtain ⟨M18, hM18⟩ := nM (M13.set gb11 .dead ++ [.tok])
   obtain ⟨e, he⟩ := nE (M13.length)
   refine OD (.sl 1 (m.map c_u8) (.tk e)) M18 rfl (by rw [he]; exact o_appT (c := c_u8) rfl f15 (src_sl rfl) U25 ti5 rfl (by simp [sliceStr, U25]) qm hM18) ?_
   have hp19 := eqP hM18 (pre_app (pre_hi hp14 lo16))
   have f20 : M18[e]? = some .tok := by rw [hM18, he]; exact get_new2
   have lo21 := loE he hp14
   refine OR 1 rfl <| OpsS_nil <| blockQ_n <| thenQ_n <| aw_region (by decide) <| OR 3 rfl <| OpsS_nil ?_
   exact thenQ_n ⟨(m, (w64 (i12 + 1))), e, M18, (Option.some.inj h).symm, ⟨hp19, f20, lo21⟩, flr rfl⟩
  ·refine aw_exit <| thenQ_exit <| thenQ_exit ?_
   have h := early_ret h k17
   refine blockQ_exit ?_
   obtain rfl := sI h
   exact thenQ_n ⟨gb11, M13, ⟨hp14, f15, lo16⟩, flr rfl⟩
 ·rintro gb M ⟨hp, f, lo⟩
  have h := k1
  refine thenQ_n <| sr (by decide) <| OR 2 rfl <| nt <| aw_ret ?_
  obtain rfl := sI h
  exact done_tmp rfl (.no _ _ _) hp
end Go.Proofs.Ytgdbmgnfaefhoaa.Am
