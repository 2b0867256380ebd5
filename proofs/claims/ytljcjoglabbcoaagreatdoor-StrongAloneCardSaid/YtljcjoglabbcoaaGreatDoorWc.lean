/- Texts that the last one of this claim rests on: a layer over the guide's own conditions for code; contracts of the functions that the law reaches, one by one. No conditions beside those of the given rows. -/
import Derived.Lib.Bytealg
import Derived.Test.YtljcjoglabbcoaaGreatDoorProg
import Derived.Test.YtljcjoglabbcoaaGreatDoorWb
section
namespace Go.Proofs.Tryz
open Go Go.Av
@[go_sem] theorem ft_orders : prog.follows .mixedOrders = true := by kernel_rfl
@[go_sem] theorem ft_sz0 : szOf prog 0 = 1 := by kernel_rfl
@[go_sem] theorem ft_pr0 : prim prog 0 = true := by kernel_rfl
@[go_sem] theorem ft_hz0 : hasZero prog 0 = true := by kernel_rfl
@[go_sem] theorem ft_by0 : bytesOf prog 0 = 0 := by kernel_rfl
@[go_sem] theorem ft_sz1 : szOf prog 1 = 1 := by kernel_rfl
@[go_sem] theorem ft_pr1 : prim prog 1 = true := by kernel_rfl
@[go_sem] theorem ft_hz1 : hasZero prog 1 = true := by kernel_rfl
@[go_sem] theorem ft_by1 : bytesOf prog 1 = 8 := by kernel_rfl
@[go_sem] theorem ft_sz2 : szOf prog 2 = 1 := by kernel_rfl
@[go_sem] theorem ft_pr2 : prim prog 2 = true := by kernel_rfl
@[go_sem] theorem ft_it2 : intT prog 2 = some .i64 := by kernel_rfl
@[go_sem] theorem ft_hz2 : hasZero prog 2 = true := by kernel_rfl
@[go_sem] theorem ft_by2 : bytesOf prog 2 = 8 := by kernel_rfl
@[go_sem] theorem ft_zo2 : zeroOf prog 2 = some (.int .i64 0) := by kernel_rfl
@[go_sem] theorem ft_sz3 : szOf prog 3 = 1 := by kernel_rfl
@[go_sem] theorem ft_pr3 : prim prog 3 = true := by kernel_rfl
@[go_sem] theorem ft_it3 : intT prog 3 = some .i64 := by kernel_rfl
@[go_sem] theorem ft_hz3 : hasZero prog 3 = true := by kernel_rfl
@[go_sem] theorem ft_by3 : bytesOf prog 3 = 8 := by kernel_rfl
@[go_sem] theorem ft_zo3 : zeroOf prog 3 = some (.int .i64 0) := by kernel_rfl
@[go_sem] theorem ft_sz4 : szOf prog 4 = 1 := by kernel_rfl
@[go_sem] theorem ft_pr4 : prim prog 4 = true := by kernel_rfl
@[go_sem] theorem ft_bo4 : isBoolT prog 4 = true := by kernel_rfl
@[go_sem] theorem ft_hz4 : hasZero prog 4 = true := by kernel_rfl
@[go_sem] theorem ft_by4 : bytesOf prog 4 = 1 := by kernel_rfl
@[go_sem] theorem ft_zo4 : zeroOf prog 4 = some (.bool false) := by kernel_rfl
@[go_sem] theorem ft_sz5 : szOf prog 5 = 1 := by kernel_rfl
@[go_sem] theorem ft_pr5 : prim prog 5 = true := by kernel_rfl
@[go_sem] theorem ft_it5 : intT prog 5 = some .u8 := by kernel_rfl
@[go_sem] theorem ft_hz5 : hasZero prog 5 = true := by kernel_rfl
@[go_sem] theorem ft_by5 : bytesOf prog 5 = 1 := by kernel_rfl
@[go_sem] theorem ft_zo5 : zeroOf prog 5 = some (.int .u8 0) := by kernel_rfl
@[go_sem] theorem ft_sz6 : szOf prog 6 = 1 := by kernel_rfl
@[go_sem] theorem ft_pr6 : prim prog 6 = true := by kernel_rfl
@[go_sem] theorem ft_it6 : intT prog 6 = some .u8 := by kernel_rfl
@[go_sem] theorem ft_hz6 : hasZero prog 6 = true := by kernel_rfl
@[go_sem] theorem ft_by6 : bytesOf prog 6 = 1 := by kernel_rfl
@[go_sem] theorem ft_zo6 : zeroOf prog 6 = some (.int .u8 0) := by kernel_rfl
@[go_sem] theorem ft_sz7 : szOf prog 7 = 4 := by kernel_rfl
@[go_sem] theorem ft_pr7 : prim prog 7 = false := by kernel_rfl
@[go_sem] theorem ft_sc7 : isStruct prog 7 = true := by kernel_rfl
@[go_sem] theorem ft_hz7 : hasZero prog 7 = true := by kernel_rfl
@[go_sem] theorem ft_by7 : bytesOf prog 7 = 24 := by kernel_rfl
@[go_sem] theorem ft_fl7 : flds prog 7 = some [2, 3, 4, 6] := by kernel_rfl
@[go_sem] theorem ft_zo7 : zeroOf prog 7 = some (.agg 7 [(.int .i64 0), (.int .i64 0), (.bool false), (.int .u8 0)]) := by kernel_rfl
@[go_sem] theorem ft_zi7 : zeroIs prog 7 = true := by kernel_rfl
@[go_sem] theorem ft_zf7 : zeroFs prog 7 = [(.int .i64 0), (.int .i64 0), (.bool false), (.int .u8 0)] := by kernel_rfl
@[go_sem] theorem ft_sz8 : szOf prog 8 = 4 := by kernel_rfl
@[go_sem] theorem ft_pr8 : prim prog 8 = false := by kernel_rfl
@[go_sem] theorem ft_sc8 : isStruct prog 8 = true := by kernel_rfl
@[go_sem] theorem ft_hz8 : hasZero prog 8 = true := by kernel_rfl
@[go_sem] theorem ft_by8 : bytesOf prog 8 = 24 := by kernel_rfl
@[go_sem] theorem ft_fl8 : flds prog 8 = some [2, 3, 4, 6] := by kernel_rfl
@[go_sem] theorem ft_zo8 : zeroOf prog 8 = some (.agg 8 [(.int .i64 0), (.int .i64 0), (.bool false), (.int .u8 0)]) := by kernel_rfl
@[go_sem] theorem ft_zi8 : zeroIs prog 8 = true := by kernel_rfl
@[go_sem] theorem ft_zf8 : zeroFs prog 8 = [(.int .i64 0), (.int .i64 0), (.bool false), (.int .u8 0)] := by kernel_rfl
@[go_sem] theorem ft_sz9 : szOf prog 9 = 1 := by kernel_rfl
@[go_sem] theorem ft_pr9 : prim prog 9 = true := by kernel_rfl
@[go_sem] theorem ft_st9 : isStrT prog 9 = true := by kernel_rfl
@[go_sem] theorem ft_it9 : intT prog 9 = none := by kernel_rfl
@[go_sem] theorem ft_hz9 : hasZero prog 9 = true := by kernel_rfl
@[go_sem] theorem ft_by9 : bytesOf prog 9 = 16 := by kernel_rfl
@[go_sem] theorem ft_zo9 : zeroOf prog 9 = some (.str []) := by kernel_rfl
@[go_sem] theorem ft_sz10 : szOf prog 10 = 1 := by kernel_rfl
@[go_sem] theorem ft_pr10 : prim prog 10 = true := by kernel_rfl
@[go_sem] theorem ft_st10 : isStrT prog 10 = true := by kernel_rfl
@[go_sem] theorem ft_it10 : intT prog 10 = none := by kernel_rfl
@[go_sem] theorem ft_hz10 : hasZero prog 10 = true := by kernel_rfl
@[go_sem] theorem ft_by10 : bytesOf prog 10 = 16 := by kernel_rfl
@[go_sem] theorem ft_zo10 : zeroOf prog 10 = some (.str []) := by kernel_rfl
@[go_sem] theorem ft_sz11 : szOf prog 11 = 1 := by kernel_rfl
@[go_sem] theorem ft_pr11 : prim prog 11 = true := by kernel_rfl
@[go_sem] theorem ft_st11 : isStrT prog 11 = true := by kernel_rfl
@[go_sem] theorem ft_it11 : intT prog 11 = none := by kernel_rfl
@[go_sem] theorem ft_hz11 : hasZero prog 11 = true := by kernel_rfl
@[go_sem] theorem ft_by11 : bytesOf prog 11 = 16 := by kernel_rfl
@[go_sem] theorem ft_zo11 : zeroOf prog 11 = some (.str []) := by kernel_rfl
@[go_sem] theorem ft_sz12 : szOf prog 12 = 1 := by kernel_rfl
@[go_sem] theorem ft_pr12 : prim prog 12 = true := by kernel_rfl
@[go_sem] theorem ft_it12 : intT prog 12 = some .u64 := by kernel_rfl
@[go_sem] theorem ft_hz12 : hasZero prog 12 = true := by kernel_rfl
@[go_sem] theorem ft_by12 : bytesOf prog 12 = 8 := by kernel_rfl
@[go_sem] theorem ft_zo12 : zeroOf prog 12 = some (.int .u64 0) := by kernel_rfl
@[go_sem] theorem ft_sz13 : szOf prog 13 = 2 := by kernel_rfl
@[go_sem] theorem ft_pr13 : prim prog 13 = false := by kernel_rfl
@[go_sem] theorem ft_sc13 : isStruct prog 13 = true := by kernel_rfl
@[go_sem] theorem ft_hz13 : hasZero prog 13 = true := by kernel_rfl
@[go_sem] theorem ft_by13 : bytesOf prog 13 = 24 := by kernel_rfl
@[go_sem] theorem ft_fl13 : flds prog 13 = some [9, 12] := by kernel_rfl
@[go_sem] theorem ft_zo13 : zeroOf prog 13 = some (.agg 13 [(.str []), (.int .u64 0)]) := by kernel_rfl
@[go_sem] theorem ft_zi13 : zeroIs prog 13 = true := by kernel_rfl
@[go_sem] theorem ft_zf13 : zeroFs prog 13 = [(.str []), (.int .u64 0)] := by kernel_rfl
@[go_sem] theorem ft_sz14 : szOf prog 14 = 2 := by kernel_rfl
@[go_sem] theorem ft_pr14 : prim prog 14 = false := by kernel_rfl
@[go_sem] theorem ft_sc14 : isStruct prog 14 = true := by kernel_rfl
@[go_sem] theorem ft_hz14 : hasZero prog 14 = true := by kernel_rfl
@[go_sem] theorem ft_by14 : bytesOf prog 14 = 24 := by kernel_rfl
@[go_sem] theorem ft_fl14 : flds prog 14 = some [9, 12] := by kernel_rfl
@[go_sem] theorem ft_zo14 : zeroOf prog 14 = some (.agg 14 [(.str []), (.int .u64 0)]) := by kernel_rfl
@[go_sem] theorem ft_zi14 : zeroIs prog 14 = true := by kernel_rfl
@[go_sem] theorem ft_zf14 : zeroFs prog 14 = [(.str []), (.int .u64 0)] := by kernel_rfl
@[go_sem] theorem ft_sz15 : szOf prog 15 = 1 := by kernel_rfl
@[go_sem] theorem ft_pr15 : prim prog 15 = true := by kernel_rfl
@[go_sem] theorem ft_pt15 : isPtrT prog 15 = true := by kernel_rfl
@[go_sem] theorem ft_hz15 : hasZero prog 15 = true := by kernel_rfl
@[go_sem] theorem ft_by15 : bytesOf prog 15 = 8 := by kernel_rfl
@[go_sem] theorem ft_zo15 : zeroOf prog 15 = some .nil := by kernel_rfl
@[go_sem] theorem ft_sz16 : szOf prog 16 = 1 := by kernel_rfl
@[go_sem] theorem ft_pr16 : prim prog 16 = true := by kernel_rfl
@[go_sem] theorem ft_pt16 : isPtrT prog 16 = true := by kernel_rfl
@[go_sem] theorem ft_hz16 : hasZero prog 16 = true := by kernel_rfl
@[go_sem] theorem ft_by16 : bytesOf prog 16 = 8 := by kernel_rfl
@[go_sem] theorem ft_zo16 : zeroOf prog 16 = some .nil := by kernel_rfl
@[go_sem] theorem ft_sz17 : szOf prog 17 = 1 := by kernel_rfl
@[go_sem] theorem ft_pr17 : prim prog 17 = true := by kernel_rfl
@[go_sem] theorem ft_pt17 : isPtrT prog 17 = true := by kernel_rfl
@[go_sem] theorem ft_hz17 : hasZero prog 17 = true := by kernel_rfl
@[go_sem] theorem ft_by17 : bytesOf prog 17 = 8 := by kernel_rfl
@[go_sem] theorem ft_zo17 : zeroOf prog 17 = some .nil := by kernel_rfl
@[go_sem] theorem ft_sz18 : szOf prog 18 = 1 := by kernel_rfl
@[go_sem] theorem ft_pr18 : prim prog 18 = false := by kernel_rfl
@[go_sem] theorem ft_sc18 : isStruct prog 18 = true := by kernel_rfl
@[go_sem] theorem ft_hz18 : hasZero prog 18 = true := by kernel_rfl
@[go_sem] theorem ft_by18 : bytesOf prog 18 = 8 := by kernel_rfl
@[go_sem] theorem ft_fl18 : flds prog 18 = some [17] := by kernel_rfl
@[go_sem] theorem ft_zo18 : zeroOf prog 18 = some (.agg 18 [.nil]) := by kernel_rfl
@[go_sem] theorem ft_zi18 : zeroIs prog 18 = true := by kernel_rfl
@[go_sem] theorem ft_zf18 : zeroFs prog 18 = [.nil] := by kernel_rfl
@[go_sem] theorem ft_sz19 : szOf prog 19 = 1 := by kernel_rfl
@[go_sem] theorem ft_pr19 : prim prog 19 = false := by kernel_rfl
@[go_sem] theorem ft_sc19 : isStruct prog 19 = true := by kernel_rfl
@[go_sem] theorem ft_hz19 : hasZero prog 19 = true := by kernel_rfl
@[go_sem] theorem ft_by19 : bytesOf prog 19 = 8 := by kernel_rfl
@[go_sem] theorem ft_fl19 : flds prog 19 = some [17] := by kernel_rfl
@[go_sem] theorem ft_zo19 : zeroOf prog 19 = some (.agg 19 [.nil]) := by kernel_rfl
@[go_sem] theorem ft_zi19 : zeroIs prog 19 = true := by kernel_rfl
@[go_sem] theorem ft_zf19 : zeroFs prog 19 = [.nil] := by kernel_rfl
@[go_sem] theorem ft_sz20 : szOf prog 20 = 1 := by kernel_rfl
@[go_sem] theorem ft_pr20 : prim prog 20 = true := by kernel_rfl
@[go_sem] theorem ft_hz20 : hasZero prog 20 = true := by kernel_rfl
@[go_sem] theorem ft_by20 : bytesOf prog 20 = 16 := by kernel_rfl
@[go_sem] theorem ft_sz21 : szOf prog 21 = 1 := by kernel_rfl
@[go_sem] theorem ft_pr21 : prim prog 21 = true := by kernel_rfl
@[go_sem] theorem ft_it21 : intT prog 21 = some .i32 := by kernel_rfl
@[go_sem] theorem ft_hz21 : hasZero prog 21 = true := by kernel_rfl
@[go_sem] theorem ft_by21 : bytesOf prog 21 = 4 := by kernel_rfl
@[go_sem] theorem ft_zo21 : zeroOf prog 21 = some (.int .i32 0) := by kernel_rfl
@[go_sem] theorem ft_sz22 : szOf prog 22 = 1 := by kernel_rfl
@[go_sem] theorem ft_pr22 : prim prog 22 = true := by kernel_rfl
@[go_sem] theorem ft_el22 : elT prog 22 = some 38 := by kernel_rfl
@[go_sem] theorem ft_hz22 : hasZero prog 22 = true := by kernel_rfl
@[go_sem] theorem ft_by22 : bytesOf prog 22 = 24 := by kernel_rfl
@[go_sem] theorem ft_zo22 : zeroOf prog 22 = some .nils := by kernel_rfl
@[go_sem] theorem ft_sz23 : szOf prog 23 = 1 := by kernel_rfl
@[go_sem] theorem ft_pr23 : prim prog 23 = true := by kernel_rfl
@[go_sem] theorem ft_hz23 : hasZero prog 23 = true := by kernel_rfl
@[go_sem] theorem ft_by23 : bytesOf prog 23 = 8 := by kernel_rfl
@[go_sem] theorem ft_sz24 : szOf prog 24 = 1 := by kernel_rfl
@[go_sem] theorem ft_pr24 : prim prog 24 = true := by kernel_rfl
@[go_sem] theorem ft_hz24 : hasZero prog 24 = true := by kernel_rfl
@[go_sem] theorem ft_by24 : bytesOf prog 24 = 8 := by kernel_rfl
@[go_sem] theorem ft_sz25 : szOf prog 25 = 1 := by kernel_rfl
@[go_sem] theorem ft_pr25 : prim prog 25 = true := by kernel_rfl
@[go_sem] theorem ft_el25 : elT prog 25 = some 32 := by kernel_rfl
@[go_sem] theorem ft_hz25 : hasZero prog 25 = true := by kernel_rfl
@[go_sem] theorem ft_by25 : bytesOf prog 25 = 24 := by kernel_rfl
@[go_sem] theorem ft_zo25 : zeroOf prog 25 = some .nils := by kernel_rfl
@[go_sem] theorem ft_sz26 : szOf prog 26 = 1 := by kernel_rfl
@[go_sem] theorem ft_pr26 : prim prog 26 = true := by kernel_rfl
@[go_sem] theorem ft_it26 : intT prog 26 = some .i64 := by kernel_rfl
@[go_sem] theorem ft_hz26 : hasZero prog 26 = true := by kernel_rfl
@[go_sem] theorem ft_by26 : bytesOf prog 26 = 8 := by kernel_rfl
@[go_sem] theorem ft_zo26 : zeroOf prog 26 = some (.int .i64 0) := by kernel_rfl
@[go_sem] theorem ft_sz27 : szOf prog 27 = 1 := by kernel_rfl
@[go_sem] theorem ft_pr27 : prim prog 27 = true := by kernel_rfl
@[go_sem] theorem ft_hz27 : hasZero prog 27 = true := by kernel_rfl
@[go_sem] theorem ft_by27 : bytesOf prog 27 = 0 := by kernel_rfl
@[go_sem] theorem ft_sz28 : szOf prog 28 = 1 := by kernel_rfl
@[go_sem] theorem ft_pr28 : prim prog 28 = true := by kernel_rfl
@[go_sem] theorem ft_hz28 : hasZero prog 28 = true := by kernel_rfl
@[go_sem] theorem ft_by28 : bytesOf prog 28 = 8 := by kernel_rfl
@[go_sem] theorem ft_sz29 : szOf prog 29 = 1 := by kernel_rfl
@[go_sem] theorem ft_pr29 : prim prog 29 = true := by kernel_rfl
@[go_sem] theorem ft_hz29 : hasZero prog 29 = true := by kernel_rfl
@[go_sem] theorem ft_by29 : bytesOf prog 29 = 8 := by kernel_rfl
@[go_sem] theorem ft_sz30 : szOf prog 30 = 1 := by kernel_rfl
@[go_sem] theorem ft_pr30 : prim prog 30 = true := by kernel_rfl
@[go_sem] theorem ft_el30 : elT prog 30 = some 3 := by kernel_rfl
@[go_sem] theorem ft_hz30 : hasZero prog 30 = true := by kernel_rfl
@[go_sem] theorem ft_by30 : bytesOf prog 30 = 24 := by kernel_rfl
@[go_sem] theorem ft_zo30 : zeroOf prog 30 = some .nils := by kernel_rfl
@[go_sem] theorem ft_sz31 : szOf prog 31 = 5 := by kernel_rfl
@[go_sem] theorem ft_pr31 : prim prog 31 = false := by kernel_rfl
@[go_sem] theorem ft_sc31 : isStruct prog 31 = true := by kernel_rfl
@[go_sem] theorem ft_hz31 : hasZero prog 31 = true := by kernel_rfl
@[go_sem] theorem ft_by31 : bytesOf prog 31 = 88 := by kernel_rfl
@[go_sem] theorem ft_fl31 : flds prog 31 = some [9, 9, 4, 30, 30] := by kernel_rfl
@[go_sem] theorem ft_zo31 : zeroOf prog 31 = some (.agg 31 [(.str []), (.str []), (.bool false), .nils, .nils]) := by kernel_rfl
@[go_sem] theorem ft_zi31 : zeroIs prog 31 = true := by kernel_rfl
@[go_sem] theorem ft_zf31 : zeroFs prog 31 = [(.str []), (.str []), (.bool false), .nils, .nils] := by kernel_rfl
@[go_sem] theorem ft_sz32 : szOf prog 32 = 5 := by kernel_rfl
@[go_sem] theorem ft_pr32 : prim prog 32 = false := by kernel_rfl
@[go_sem] theorem ft_sc32 : isStruct prog 32 = true := by kernel_rfl
@[go_sem] theorem ft_hz32 : hasZero prog 32 = true := by kernel_rfl
@[go_sem] theorem ft_by32 : bytesOf prog 32 = 88 := by kernel_rfl
@[go_sem] theorem ft_fl32 : flds prog 32 = some [9, 9, 4, 30, 30] := by kernel_rfl
@[go_sem] theorem ft_zo32 : zeroOf prog 32 = some (.agg 32 [(.str []), (.str []), (.bool false), .nils, .nils]) := by kernel_rfl
@[go_sem] theorem ft_zi32 : zeroIs prog 32 = true := by kernel_rfl
@[go_sem] theorem ft_zf32 : zeroFs prog 32 = [(.str []), (.str []), (.bool false), .nils, .nils] := by kernel_rfl
@[go_sem] theorem ft_sz33 : szOf prog 33 = 1 := by kernel_rfl
@[go_sem] theorem ft_pr33 : prim prog 33 = true := by kernel_rfl
@[go_sem] theorem ft_hz33 : hasZero prog 33 = true := by kernel_rfl
@[go_sem] theorem ft_by33 : bytesOf prog 33 = 8 := by kernel_rfl
@[go_sem] theorem ft_sz34 : szOf prog 34 = 1 := by kernel_rfl
@[go_sem] theorem ft_pr34 : prim prog 34 = true := by kernel_rfl
@[go_sem] theorem ft_el34 : elT prog 34 = some 49 := by kernel_rfl
@[go_sem] theorem ft_hz34 : hasZero prog 34 = true := by kernel_rfl
@[go_sem] theorem ft_by34 : bytesOf prog 34 = 24 := by kernel_rfl
@[go_sem] theorem ft_zo34 : zeroOf prog 34 = some .nils := by kernel_rfl
@[go_sem] theorem ft_sz35 : szOf prog 35 = 1 := by kernel_rfl
@[go_sem] theorem ft_pr35 : prim prog 35 = true := by kernel_rfl
@[go_sem] theorem ft_el35 : elT prog 35 = some 48 := by kernel_rfl
@[go_sem] theorem ft_hz35 : hasZero prog 35 = true := by kernel_rfl
@[go_sem] theorem ft_by35 : bytesOf prog 35 = 24 := by kernel_rfl
@[go_sem] theorem ft_zo35 : zeroOf prog 35 = some .nils := by kernel_rfl
@[go_sem] theorem ft_sz36 : szOf prog 36 = 1 := by kernel_rfl
@[go_sem] theorem ft_pr36 : prim prog 36 = true := by kernel_rfl
@[go_sem] theorem ft_el36 : elT prog 36 = some 105 := by kernel_rfl
@[go_sem] theorem ft_hz36 : hasZero prog 36 = true := by kernel_rfl
@[go_sem] theorem ft_by36 : bytesOf prog 36 = 24 := by kernel_rfl
@[go_sem] theorem ft_zo36 : zeroOf prog 36 = some .nils := by kernel_rfl
@[go_sem] theorem ft_sz37 : szOf prog 37 = 9 := by kernel_rfl
@[go_sem] theorem ft_pr37 : prim prog 37 = false := by kernel_rfl
@[go_sem] theorem ft_sc37 : isStruct prog 37 = true := by kernel_rfl
@[go_sem] theorem ft_hz37 : hasZero prog 37 = true := by kernel_rfl
@[go_sem] theorem ft_by37 : bytesOf prog 37 = 184 := by kernel_rfl
@[go_sem] theorem ft_fl37 : flds prog 37 = some [9, 9, 34, 34, 34, 35, 35, 36, 4] := by kernel_rfl
@[go_sem] theorem ft_zo37 : zeroOf prog 37 = some (.agg 37 [(.str []), (.str []), .nils, .nils, .nils, .nils, .nils, .nils, (.bool false)]) := by kernel_rfl
@[go_sem] theorem ft_zi37 : zeroIs prog 37 = true := by kernel_rfl
@[go_sem] theorem ft_zf37 : zeroFs prog 37 = [(.str []), (.str []), .nils, .nils, .nils, .nils, .nils, .nils, (.bool false)] := by kernel_rfl
@[go_sem] theorem ft_sz38 : szOf prog 38 = 9 := by kernel_rfl
@[go_sem] theorem ft_pr38 : prim prog 38 = false := by kernel_rfl
@[go_sem] theorem ft_sc38 : isStruct prog 38 = true := by kernel_rfl
@[go_sem] theorem ft_hz38 : hasZero prog 38 = true := by kernel_rfl
@[go_sem] theorem ft_by38 : bytesOf prog 38 = 184 := by kernel_rfl
@[go_sem] theorem ft_fl38 : flds prog 38 = some [9, 9, 34, 34, 34, 35, 35, 36, 4] := by kernel_rfl
@[go_sem] theorem ft_zo38 : zeroOf prog 38 = some (.agg 38 [(.str []), (.str []), .nils, .nils, .nils, .nils, .nils, .nils, (.bool false)]) := by kernel_rfl
@[go_sem] theorem ft_zi38 : zeroIs prog 38 = true := by kernel_rfl
@[go_sem] theorem ft_zf38 : zeroFs prog 38 = [(.str []), (.str []), .nils, .nils, .nils, .nils, .nils, .nils, (.bool false)] := by kernel_rfl
@[go_sem] theorem ft_sz39 : szOf prog 39 = 1 := by kernel_rfl
@[go_sem] theorem ft_pr39 : prim prog 39 = true := by kernel_rfl
@[go_sem] theorem ft_hz39 : hasZero prog 39 = true := by kernel_rfl
@[go_sem] theorem ft_by39 : bytesOf prog 39 = 8 := by kernel_rfl
@[go_sem] theorem ft_sz40 : szOf prog 40 = 1 := by kernel_rfl
@[go_sem] theorem ft_pr40 : prim prog 40 = true := by kernel_rfl
@[go_sem] theorem ft_hz40 : hasZero prog 40 = true := by kernel_rfl
@[go_sem] theorem ft_by40 : bytesOf prog 40 = 8 := by kernel_rfl
@[go_sem] theorem ft_sz41 : szOf prog 41 = 1 := by kernel_rfl
@[go_sem] theorem ft_pr41 : prim prog 41 = true := by kernel_rfl
@[go_sem] theorem ft_hz41 : hasZero prog 41 = true := by kernel_rfl
@[go_sem] theorem ft_by41 : bytesOf prog 41 = 8 := by kernel_rfl
@[go_sem] theorem ft_sz42 : szOf prog 42 = 1 := by kernel_rfl
@[go_sem] theorem ft_pr42 : prim prog 42 = true := by kernel_rfl
@[go_sem] theorem ft_hz42 : hasZero prog 42 = true := by kernel_rfl
@[go_sem] theorem ft_by42 : bytesOf prog 42 = 0 := by kernel_rfl
@[go_sem] theorem ft_sz43 : szOf prog 43 = 1 := by kernel_rfl
@[go_sem] theorem ft_pr43 : prim prog 43 = true := by kernel_rfl
@[go_sem] theorem ft_hz43 : hasZero prog 43 = true := by kernel_rfl
@[go_sem] theorem ft_by43 : bytesOf prog 43 = 8 := by kernel_rfl
@[go_sem] theorem ft_sz44 : szOf prog 44 = 1 := by kernel_rfl
@[go_sem] theorem ft_pr44 : prim prog 44 = true := by kernel_rfl
@[go_sem] theorem ft_hz44 : hasZero prog 44 = true := by kernel_rfl
@[go_sem] theorem ft_by44 : bytesOf prog 44 = 8 := by kernel_rfl
@[go_sem] theorem ft_sz45 : szOf prog 45 = 1 := by kernel_rfl
@[go_sem] theorem ft_pr45 : prim prog 45 = true := by kernel_rfl
@[go_sem] theorem ft_hz45 : hasZero prog 45 = true := by kernel_rfl
@[go_sem] theorem ft_by45 : bytesOf prog 45 = 8 := by kernel_rfl
@[go_sem] theorem ft_sz46 : szOf prog 46 = 1 := by kernel_rfl
@[go_sem] theorem ft_pr46 : prim prog 46 = true := by kernel_rfl
@[go_sem] theorem ft_hz46 : hasZero prog 46 = true := by kernel_rfl
@[go_sem] theorem ft_by46 : bytesOf prog 46 = 8 := by kernel_rfl
@[go_sem] theorem ft_sz47 : szOf prog 47 = 3 := by kernel_rfl
@[go_sem] theorem ft_pr47 : prim prog 47 = false := by kernel_rfl
@[go_sem] theorem ft_sc47 : isStruct prog 47 = true := by kernel_rfl
@[go_sem] theorem ft_hz47 : hasZero prog 47 = true := by kernel_rfl
@[go_sem] theorem ft_by47 : bytesOf prog 47 = 40 := by kernel_rfl
@[go_sem] theorem ft_fl47 : flds prog 47 = some [9, 3, 9] := by kernel_rfl
@[go_sem] theorem ft_zo47 : zeroOf prog 47 = some (.agg 47 [(.str []), (.int .i64 0), (.str [])]) := by kernel_rfl
@[go_sem] theorem ft_zi47 : zeroIs prog 47 = true := by kernel_rfl
@[go_sem] theorem ft_zf47 : zeroFs prog 47 = [(.str []), (.int .i64 0), (.str [])] := by kernel_rfl
@[go_sem] theorem ft_sz48 : szOf prog 48 = 3 := by kernel_rfl
@[go_sem] theorem ft_pr48 : prim prog 48 = false := by kernel_rfl
@[go_sem] theorem ft_sc48 : isStruct prog 48 = true := by kernel_rfl
@[go_sem] theorem ft_hz48 : hasZero prog 48 = true := by kernel_rfl
@[go_sem] theorem ft_by48 : bytesOf prog 48 = 40 := by kernel_rfl
@[go_sem] theorem ft_fl48 : flds prog 48 = some [9, 3, 9] := by kernel_rfl
@[go_sem] theorem ft_zo48 : zeroOf prog 48 = some (.agg 48 [(.str []), (.int .i64 0), (.str [])]) := by kernel_rfl
@[go_sem] theorem ft_zi48 : zeroIs prog 48 = true := by kernel_rfl
@[go_sem] theorem ft_zf48 : zeroFs prog 48 = [(.str []), (.int .i64 0), (.str [])] := by kernel_rfl
@[go_sem] theorem ft_sz49 : szOf prog 49 = 1 := by kernel_rfl
@[go_sem] theorem ft_pr49 : prim prog 49 = true := by kernel_rfl
@[go_sem] theorem ft_el49 : elT prog 49 = some 48 := by kernel_rfl
@[go_sem] theorem ft_hz49 : hasZero prog 49 = true := by kernel_rfl
@[go_sem] theorem ft_by49 : bytesOf prog 49 = 24 := by kernel_rfl
@[go_sem] theorem ft_zo49 : zeroOf prog 49 = some .nils := by kernel_rfl
@[go_sem] theorem ft_sz50 : szOf prog 50 = 1 := by kernel_rfl
@[go_sem] theorem ft_pr50 : prim prog 50 = true := by kernel_rfl
@[go_sem] theorem ft_pt50 : isPtrT prog 50 = true := by kernel_rfl
@[go_sem] theorem ft_hz50 : hasZero prog 50 = true := by kernel_rfl
@[go_sem] theorem ft_by50 : bytesOf prog 50 = 8 := by kernel_rfl
@[go_sem] theorem ft_zo50 : zeroOf prog 50 = some .nil := by kernel_rfl
@[go_sem] theorem ft_sz51 : szOf prog 51 = 1 := by kernel_rfl
@[go_sem] theorem ft_pr51 : prim prog 51 = true := by kernel_rfl
@[go_sem] theorem ft_hz51 : hasZero prog 51 = true := by kernel_rfl
@[go_sem] theorem ft_by51 : bytesOf prog 51 = 0 := by kernel_rfl
@[go_sem] theorem ft_sz52 : szOf prog 52 = 1 := by kernel_rfl
@[go_sem] theorem ft_pr52 : prim prog 52 = true := by kernel_rfl
@[go_sem] theorem ft_hz52 : hasZero prog 52 = true := by kernel_rfl
@[go_sem] theorem ft_by52 : bytesOf prog 52 = 8 := by kernel_rfl
@[go_sem] theorem ft_sz53 : szOf prog 53 = 1 := by kernel_rfl
@[go_sem] theorem ft_pr53 : prim prog 53 = true := by kernel_rfl
@[go_sem] theorem ft_hz53 : hasZero prog 53 = true := by kernel_rfl
@[go_sem] theorem ft_by53 : bytesOf prog 53 = 8 := by kernel_rfl
@[go_sem] theorem ft_sz54 : szOf prog 54 = 1 := by kernel_rfl
@[go_sem] theorem ft_pr54 : prim prog 54 = true := by kernel_rfl
@[go_sem] theorem ft_it54 : intT prog 54 = some .i64 := by kernel_rfl
@[go_sem] theorem ft_hz54 : hasZero prog 54 = true := by kernel_rfl
@[go_sem] theorem ft_by54 : bytesOf prog 54 = 8 := by kernel_rfl
@[go_sem] theorem ft_zo54 : zeroOf prog 54 = some (.int .i64 0) := by kernel_rfl
@[go_sem] theorem ft_sz55 : szOf prog 55 = 1 := by kernel_rfl
@[go_sem] theorem ft_pr55 : prim prog 55 = true := by kernel_rfl
@[go_sem] theorem ft_hz55 : hasZero prog 55 = true := by kernel_rfl
@[go_sem] theorem ft_by55 : bytesOf prog 55 = 8 := by kernel_rfl
@[go_sem] theorem ft_sz56 : szOf prog 56 = 1 := by kernel_rfl
@[go_sem] theorem ft_pr56 : prim prog 56 = true := by kernel_rfl
@[go_sem] theorem ft_el56 : elT prog 56 = some 9 := by kernel_rfl
@[go_sem] theorem ft_hz56 : hasZero prog 56 = true := by kernel_rfl
@[go_sem] theorem ft_by56 : bytesOf prog 56 = 24 := by kernel_rfl
@[go_sem] theorem ft_zo56 : zeroOf prog 56 = some .nils := by kernel_rfl
@[go_sem] theorem ft_sz57 : szOf prog 57 = 1 := by kernel_rfl
@[go_sem] theorem ft_pr57 : prim prog 57 = true := by kernel_rfl
@[go_sem] theorem ft_hz57 : hasZero prog 57 = true := by kernel_rfl
@[go_sem] theorem ft_by57 : bytesOf prog 57 = 8 := by kernel_rfl
@[go_sem] theorem ft_sz58 : szOf prog 58 = 1 := by kernel_rfl
@[go_sem] theorem ft_pr58 : prim prog 58 = true := by kernel_rfl
@[go_sem] theorem ft_el58 : elT prog 58 = some 30 := by kernel_rfl
@[go_sem] theorem ft_hz58 : hasZero prog 58 = true := by kernel_rfl
@[go_sem] theorem ft_by58 : bytesOf prog 58 = 24 := by kernel_rfl
@[go_sem] theorem ft_zo58 : zeroOf prog 58 = some .nils := by kernel_rfl
@[go_sem] theorem ft_sz59 : szOf prog 59 = 1 := by kernel_rfl
@[go_sem] theorem ft_pr59 : prim prog 59 = true := by kernel_rfl
@[go_sem] theorem ft_hz59 : hasZero prog 59 = true := by kernel_rfl
@[go_sem] theorem ft_by59 : bytesOf prog 59 = 8 := by kernel_rfl
@[go_sem] theorem ft_sz60 : szOf prog 60 = 1 := by kernel_rfl
@[go_sem] theorem ft_pr60 : prim prog 60 = true := by kernel_rfl
@[go_sem] theorem ft_hz60 : hasZero prog 60 = true := by kernel_rfl
@[go_sem] theorem ft_by60 : bytesOf prog 60 = 8 := by kernel_rfl
@[go_sem] theorem ft_sz61 : szOf prog 61 = 1 := by kernel_rfl
@[go_sem] theorem ft_pr61 : prim prog 61 = true := by kernel_rfl
@[go_sem] theorem ft_hz61 : hasZero prog 61 = true := by kernel_rfl
@[go_sem] theorem ft_by61 : bytesOf prog 61 = 8 := by kernel_rfl
@[go_sem] theorem ft_sz62 : szOf prog 62 = 1 := by kernel_rfl
@[go_sem] theorem ft_pr62 : prim prog 62 = true := by kernel_rfl
@[go_sem] theorem ft_hz62 : hasZero prog 62 = true := by kernel_rfl
@[go_sem] theorem ft_by62 : bytesOf prog 62 = 8 := by kernel_rfl
@[go_sem] theorem ft_sz63 : szOf prog 63 = 1 := by kernel_rfl
@[go_sem] theorem ft_pr63 : prim prog 63 = true := by kernel_rfl
@[go_sem] theorem ft_el63 : elT prog 63 = some 99 := by kernel_rfl
@[go_sem] theorem ft_hz63 : hasZero prog 63 = true := by kernel_rfl
@[go_sem] theorem ft_by63 : bytesOf prog 63 = 24 := by kernel_rfl
@[go_sem] theorem ft_zo63 : zeroOf prog 63 = some .nils := by kernel_rfl
@[go_sem] theorem ft_sz64 : szOf prog 64 = 1 := by kernel_rfl
@[go_sem] theorem ft_pr64 : prim prog 64 = true := by kernel_rfl
@[go_sem] theorem ft_hz64 : hasZero prog 64 = true := by kernel_rfl
@[go_sem] theorem ft_by64 : bytesOf prog 64 = 8 := by kernel_rfl
@[go_sem] theorem ft_sz65 : szOf prog 65 = 1 := by kernel_rfl
@[go_sem] theorem ft_pr65 : prim prog 65 = true := by kernel_rfl
@[go_sem] theorem ft_hz65 : hasZero prog 65 = true := by kernel_rfl
@[go_sem] theorem ft_by65 : bytesOf prog 65 = 8 := by kernel_rfl
@[go_sem] theorem ft_sz66 : szOf prog 66 = 1 := by kernel_rfl
@[go_sem] theorem ft_pr66 : prim prog 66 = true := by kernel_rfl
@[go_sem] theorem ft_hz66 : hasZero prog 66 = true := by kernel_rfl
@[go_sem] theorem ft_by66 : bytesOf prog 66 = 8 := by kernel_rfl
@[go_sem] theorem ft_sz67 : szOf prog 67 = 3 := by kernel_rfl
@[go_sem] theorem ft_pr67 : prim prog 67 = false := by kernel_rfl
@[go_sem] theorem ft_hz67 : hasZero prog 67 = true := by kernel_rfl
@[go_sem] theorem ft_by67 : bytesOf prog 67 = 72 := by kernel_rfl
@[go_sem] theorem ft_ar67 : arrT prog 67 = some 34 := by kernel_rfl
@[go_sem] theorem ft_fl67 : flds prog 67 = some [34, 34, 34] := by kernel_rfl
@[go_sem] theorem ft_zo67 : zeroOf prog 67 = some (.agg 67 [.nils, .nils, .nils]) := by kernel_rfl
@[go_sem] theorem ft_zi67 : zeroIs prog 67 = true := by kernel_rfl
@[go_sem] theorem ft_zf67 : zeroFs prog 67 = [.nils, .nils, .nils] := by kernel_rfl
@[go_sem] theorem ft_sz68 : szOf prog 68 = 1 := by kernel_rfl
@[go_sem] theorem ft_pr68 : prim prog 68 = true := by kernel_rfl
@[go_sem] theorem ft_hz68 : hasZero prog 68 = true := by kernel_rfl
@[go_sem] theorem ft_by68 : bytesOf prog 68 = 8 := by kernel_rfl
@[go_sem] theorem ft_sz69 : szOf prog 69 = 1 := by kernel_rfl
@[go_sem] theorem ft_pr69 : prim prog 69 = true := by kernel_rfl
@[go_sem] theorem ft_hz69 : hasZero prog 69 = true := by kernel_rfl
@[go_sem] theorem ft_by69 : bytesOf prog 69 = 8 := by kernel_rfl
@[go_sem] theorem ft_sz70 : szOf prog 70 = 1 := by kernel_rfl
@[go_sem] theorem ft_pr70 : prim prog 70 = true := by kernel_rfl
@[go_sem] theorem ft_hz70 : hasZero prog 70 = true := by kernel_rfl
@[go_sem] theorem ft_by70 : bytesOf prog 70 = 8 := by kernel_rfl
@[go_sem] theorem ft_sz71 : szOf prog 71 = 1 := by kernel_rfl
@[go_sem] theorem ft_pr71 : prim prog 71 = true := by kernel_rfl
@[go_sem] theorem ft_hz71 : hasZero prog 71 = true := by kernel_rfl
@[go_sem] theorem ft_by71 : bytesOf prog 71 = 8 := by kernel_rfl
@[go_sem] theorem ft_sz72 : szOf prog 72 = 1 := by kernel_rfl
@[go_sem] theorem ft_pr72 : prim prog 72 = true := by kernel_rfl
@[go_sem] theorem ft_hz72 : hasZero prog 72 = true := by kernel_rfl
@[go_sem] theorem ft_by72 : bytesOf prog 72 = 8 := by kernel_rfl
@[go_sem] theorem ft_sz73 : szOf prog 73 = 6 := by kernel_rfl
@[go_sem] theorem ft_pr73 : prim prog 73 = false := by kernel_rfl
@[go_sem] theorem ft_hz73 : hasZero prog 73 = true := by kernel_rfl
@[go_sem] theorem ft_by73 : bytesOf prog 73 = 144 := by kernel_rfl
@[go_sem] theorem ft_ar73 : arrT prog 73 = some 34 := by kernel_rfl
@[go_sem] theorem ft_fl73 : flds prog 73 = some [34, 34, 34, 34, 34, 34] := by kernel_rfl
@[go_sem] theorem ft_zo73 : zeroOf prog 73 = some (.agg 73 [.nils, .nils, .nils, .nils, .nils, .nils]) := by kernel_rfl
@[go_sem] theorem ft_zi73 : zeroIs prog 73 = true := by kernel_rfl
@[go_sem] theorem ft_zf73 : zeroFs prog 73 = [.nils, .nils, .nils, .nils, .nils, .nils] := by kernel_rfl
@[go_sem] theorem ft_sz74 : szOf prog 74 = 1 := by kernel_rfl
@[go_sem] theorem ft_pr74 : prim prog 74 = true := by kernel_rfl
@[go_sem] theorem ft_hz74 : hasZero prog 74 = true := by kernel_rfl
@[go_sem] theorem ft_by74 : bytesOf prog 74 = 8 := by kernel_rfl
@[go_sem] theorem ft_sz75 : szOf prog 75 = 2 := by kernel_rfl
@[go_sem] theorem ft_pr75 : prim prog 75 = false := by kernel_rfl
@[go_sem] theorem ft_hz75 : hasZero prog 75 = true := by kernel_rfl
@[go_sem] theorem ft_by75 : bytesOf prog 75 = 48 := by kernel_rfl
@[go_sem] theorem ft_ar75 : arrT prog 75 = some 34 := by kernel_rfl
@[go_sem] theorem ft_fl75 : flds prog 75 = some [34, 34] := by kernel_rfl
@[go_sem] theorem ft_zo75 : zeroOf prog 75 = some (.agg 75 [.nils, .nils]) := by kernel_rfl
@[go_sem] theorem ft_zi75 : zeroIs prog 75 = true := by kernel_rfl
@[go_sem] theorem ft_zf75 : zeroFs prog 75 = [.nils, .nils] := by kernel_rfl
@[go_sem] theorem ft_sz76 : szOf prog 76 = 1 := by kernel_rfl
@[go_sem] theorem ft_pr76 : prim prog 76 = true := by kernel_rfl
@[go_sem] theorem ft_hz76 : hasZero prog 76 = true := by kernel_rfl
@[go_sem] theorem ft_by76 : bytesOf prog 76 = 8 := by kernel_rfl
@[go_sem] theorem ft_sz77 : szOf prog 77 = 1 := by kernel_rfl
@[go_sem] theorem ft_pr77 : prim prog 77 = true := by kernel_rfl
@[go_sem] theorem ft_hz77 : hasZero prog 77 = true := by kernel_rfl
@[go_sem] theorem ft_by77 : bytesOf prog 77 = 8 := by kernel_rfl
@[go_sem] theorem ft_sz78 : szOf prog 78 = 1 := by kernel_rfl
@[go_sem] theorem ft_pr78 : prim prog 78 = true := by kernel_rfl
@[go_sem] theorem ft_hz78 : hasZero prog 78 = true := by kernel_rfl
@[go_sem] theorem ft_by78 : bytesOf prog 78 = 8 := by kernel_rfl
@[go_sem] theorem ft_sz79 : szOf prog 79 = 1 := by kernel_rfl
@[go_sem] theorem ft_pr79 : prim prog 79 = true := by kernel_rfl
@[go_sem] theorem ft_pt79 : isPtrT prog 79 = true := by kernel_rfl
@[go_sem] theorem ft_hz79 : hasZero prog 79 = true := by kernel_rfl
@[go_sem] theorem ft_by79 : bytesOf prog 79 = 8 := by kernel_rfl
@[go_sem] theorem ft_zo79 : zeroOf prog 79 = some .nil := by kernel_rfl
@[go_sem] theorem ft_sz80 : szOf prog 80 = 1 := by kernel_rfl
@[go_sem] theorem ft_pr80 : prim prog 80 = true := by kernel_rfl
@[go_sem] theorem ft_hz80 : hasZero prog 80 = true := by kernel_rfl
@[go_sem] theorem ft_by80 : bytesOf prog 80 = 8 := by kernel_rfl
@[go_sem] theorem ft_sz81 : szOf prog 81 = 2 := by kernel_rfl
@[go_sem] theorem ft_pr81 : prim prog 81 = false := by kernel_rfl
@[go_sem] theorem ft_sc81 : isStruct prog 81 = true := by kernel_rfl
@[go_sem] theorem ft_hz81 : hasZero prog 81 = true := by kernel_rfl
@[go_sem] theorem ft_by81 : bytesOf prog 81 = 16 := by kernel_rfl
@[go_sem] theorem ft_fl81 : flds prog 81 = some [3, 79] := by kernel_rfl
@[go_sem] theorem ft_zo81 : zeroOf prog 81 = some (.agg 81 [(.int .i64 0), .nil]) := by kernel_rfl
@[go_sem] theorem ft_zi81 : zeroIs prog 81 = true := by kernel_rfl
@[go_sem] theorem ft_zf81 : zeroFs prog 81 = [(.int .i64 0), .nil] := by kernel_rfl
@[go_sem] theorem ft_sz82 : szOf prog 82 = 2 := by kernel_rfl
@[go_sem] theorem ft_pr82 : prim prog 82 = false := by kernel_rfl
@[go_sem] theorem ft_sc82 : isStruct prog 82 = true := by kernel_rfl
@[go_sem] theorem ft_hz82 : hasZero prog 82 = true := by kernel_rfl
@[go_sem] theorem ft_by82 : bytesOf prog 82 = 16 := by kernel_rfl
@[go_sem] theorem ft_fl82 : flds prog 82 = some [3, 79] := by kernel_rfl
@[go_sem] theorem ft_zo82 : zeroOf prog 82 = some (.agg 82 [(.int .i64 0), .nil]) := by kernel_rfl
@[go_sem] theorem ft_zi82 : zeroIs prog 82 = true := by kernel_rfl
@[go_sem] theorem ft_zf82 : zeroFs prog 82 = [(.int .i64 0), .nil] := by kernel_rfl
@[go_sem] theorem ft_sz83 : szOf prog 83 = 1 := by kernel_rfl
@[go_sem] theorem ft_pr83 : prim prog 83 = true := by kernel_rfl
@[go_sem] theorem ft_hz83 : hasZero prog 83 = true := by kernel_rfl
@[go_sem] theorem ft_by83 : bytesOf prog 83 = 8 := by kernel_rfl
@[go_sem] theorem ft_sz84 : szOf prog 84 = 1 := by kernel_rfl
@[go_sem] theorem ft_pr84 : prim prog 84 = true := by kernel_rfl
@[go_sem] theorem ft_el84 : elT prog 84 = some 54 := by kernel_rfl
@[go_sem] theorem ft_hz84 : hasZero prog 84 = true := by kernel_rfl
@[go_sem] theorem ft_by84 : bytesOf prog 84 = 24 := by kernel_rfl
@[go_sem] theorem ft_zo84 : zeroOf prog 84 = some .nils := by kernel_rfl
@[go_sem] theorem ft_sz85 : szOf prog 85 = 1 := by kernel_rfl
@[go_sem] theorem ft_pr85 : prim prog 85 = true := by kernel_rfl
@[go_sem] theorem ft_hz85 : hasZero prog 85 = true := by kernel_rfl
@[go_sem] theorem ft_by85 : bytesOf prog 85 = 8 := by kernel_rfl
@[go_sem] theorem ft_sz86 : szOf prog 86 = 1 := by kernel_rfl
@[go_sem] theorem ft_pr86 : prim prog 86 = true := by kernel_rfl
@[go_sem] theorem ft_hz86 : hasZero prog 86 = true := by kernel_rfl
@[go_sem] theorem ft_by86 : bytesOf prog 86 = 8 := by kernel_rfl
@[go_sem] theorem ft_sz87 : szOf prog 87 = 1 := by kernel_rfl
@[go_sem] theorem ft_pr87 : prim prog 87 = true := by kernel_rfl
@[go_sem] theorem ft_hz87 : hasZero prog 87 = true := by kernel_rfl
@[go_sem] theorem ft_by87 : bytesOf prog 87 = 8 := by kernel_rfl
@[go_sem] theorem ft_sz88 : szOf prog 88 = 1 := by kernel_rfl
@[go_sem] theorem ft_pr88 : prim prog 88 = true := by kernel_rfl
@[go_sem] theorem ft_hz88 : hasZero prog 88 = true := by kernel_rfl
@[go_sem] theorem ft_by88 : bytesOf prog 88 = 8 := by kernel_rfl
@[go_sem] theorem ft_sz89 : szOf prog 89 = 1 := by kernel_rfl
@[go_sem] theorem ft_pr89 : prim prog 89 = true := by kernel_rfl
@[go_sem] theorem ft_el89 : elT prog 89 = some 4 := by kernel_rfl
@[go_sem] theorem ft_hz89 : hasZero prog 89 = true := by kernel_rfl
@[go_sem] theorem ft_by89 : bytesOf prog 89 = 24 := by kernel_rfl
@[go_sem] theorem ft_zo89 : zeroOf prog 89 = some .nils := by kernel_rfl
@[go_sem] theorem ft_sz90 : szOf prog 90 = 1 := by kernel_rfl
@[go_sem] theorem ft_pr90 : prim prog 90 = true := by kernel_rfl
@[go_sem] theorem ft_hz90 : hasZero prog 90 = true := by kernel_rfl
@[go_sem] theorem ft_by90 : bytesOf prog 90 = 0 := by kernel_rfl
@[go_sem] theorem ft_sz91 : szOf prog 91 = 1 := by kernel_rfl
@[go_sem] theorem ft_pr91 : prim prog 91 = true := by kernel_rfl
@[go_sem] theorem ft_hz91 : hasZero prog 91 = true := by kernel_rfl
@[go_sem] theorem ft_by91 : bytesOf prog 91 = 8 := by kernel_rfl
@[go_sem] theorem ft_sz92 : szOf prog 92 = 1 := by kernel_rfl
@[go_sem] theorem ft_pr92 : prim prog 92 = true := by kernel_rfl
@[go_sem] theorem ft_hz92 : hasZero prog 92 = true := by kernel_rfl
@[go_sem] theorem ft_by92 : bytesOf prog 92 = 8 := by kernel_rfl
@[go_sem] theorem ft_sz93 : szOf prog 93 = 1 := by kernel_rfl
@[go_sem] theorem ft_pr93 : prim prog 93 = true := by kernel_rfl
@[go_sem] theorem ft_hz93 : hasZero prog 93 = true := by kernel_rfl
@[go_sem] theorem ft_by93 : bytesOf prog 93 = 8 := by kernel_rfl
@[go_sem] theorem ft_sz94 : szOf prog 94 = 1 := by kernel_rfl
@[go_sem] theorem ft_pr94 : prim prog 94 = true := by kernel_rfl
@[go_sem] theorem ft_hz94 : hasZero prog 94 = true := by kernel_rfl
@[go_sem] theorem ft_by94 : bytesOf prog 94 = 8 := by kernel_rfl
@[go_sem] theorem ft_sz95 : szOf prog 95 = 1 := by kernel_rfl
@[go_sem] theorem ft_pr95 : prim prog 95 = true := by kernel_rfl
@[go_sem] theorem ft_hz95 : hasZero prog 95 = true := by kernel_rfl
@[go_sem] theorem ft_by95 : bytesOf prog 95 = 8 := by kernel_rfl
@[go_sem] theorem ft_sz96 : szOf prog 96 = 1 := by kernel_rfl
@[go_sem] theorem ft_pr96 : prim prog 96 = true := by kernel_rfl
@[go_sem] theorem ft_hz96 : hasZero prog 96 = true := by kernel_rfl
@[go_sem] theorem ft_by96 : bytesOf prog 96 = 8 := by kernel_rfl
@[go_sem] theorem ft_sz97 : szOf prog 97 = 5 := by kernel_rfl
@[go_sem] theorem ft_pr97 : prim prog 97 = false := by kernel_rfl
@[go_sem] theorem ft_hz97 : hasZero prog 97 = true := by kernel_rfl
@[go_sem] theorem ft_by97 : bytesOf prog 97 = 40 := by kernel_rfl
@[go_sem] theorem ft_ar97 : arrT prog 97 = some 3 := by kernel_rfl
@[go_sem] theorem ft_fl97 : flds prog 97 = some [3, 3, 3, 3, 3] := by kernel_rfl
@[go_sem] theorem ft_zo97 : zeroOf prog 97 = some (.agg 97 [(.int .i64 0), (.int .i64 0), (.int .i64 0), (.int .i64 0), (.int .i64 0)]) := by kernel_rfl
@[go_sem] theorem ft_zi97 : zeroIs prog 97 = true := by kernel_rfl
@[go_sem] theorem ft_zf97 : zeroFs prog 97 = [(.int .i64 0), (.int .i64 0), (.int .i64 0), (.int .i64 0), (.int .i64 0)] := by kernel_rfl
@[go_sem] theorem ft_sz98 : szOf prog 98 = 3 := by kernel_rfl
@[go_sem] theorem ft_pr98 : prim prog 98 = false := by kernel_rfl
@[go_sem] theorem ft_sc98 : isStruct prog 98 = true := by kernel_rfl
@[go_sem] theorem ft_hz98 : hasZero prog 98 = true := by kernel_rfl
@[go_sem] theorem ft_by98 : bytesOf prog 98 = 24 := by kernel_rfl
@[go_sem] theorem ft_fl98 : flds prog 98 = some [3, 3, 3] := by kernel_rfl
@[go_sem] theorem ft_zo98 : zeroOf prog 98 = some (.agg 98 [(.int .i64 0), (.int .i64 0), (.int .i64 0)]) := by kernel_rfl
@[go_sem] theorem ft_zi98 : zeroIs prog 98 = true := by kernel_rfl
@[go_sem] theorem ft_zf98 : zeroFs prog 98 = [(.int .i64 0), (.int .i64 0), (.int .i64 0)] := by kernel_rfl
@[go_sem] theorem ft_sz99 : szOf prog 99 = 3 := by kernel_rfl
@[go_sem] theorem ft_pr99 : prim prog 99 = false := by kernel_rfl
@[go_sem] theorem ft_sc99 : isStruct prog 99 = true := by kernel_rfl
@[go_sem] theorem ft_hz99 : hasZero prog 99 = true := by kernel_rfl
@[go_sem] theorem ft_by99 : bytesOf prog 99 = 24 := by kernel_rfl
@[go_sem] theorem ft_fl99 : flds prog 99 = some [3, 3, 3] := by kernel_rfl
@[go_sem] theorem ft_zo99 : zeroOf prog 99 = some (.agg 99 [(.int .i64 0), (.int .i64 0), (.int .i64 0)]) := by kernel_rfl
@[go_sem] theorem ft_zi99 : zeroIs prog 99 = true := by kernel_rfl
@[go_sem] theorem ft_zf99 : zeroFs prog 99 = [(.int .i64 0), (.int .i64 0), (.int .i64 0)] := by kernel_rfl
@[go_sem] theorem ft_sz100 : szOf prog 100 = 1 := by kernel_rfl
@[go_sem] theorem ft_pr100 : prim prog 100 = true := by kernel_rfl
@[go_sem] theorem ft_hz100 : hasZero prog 100 = true := by kernel_rfl
@[go_sem] theorem ft_by100 : bytesOf prog 100 = 8 := by kernel_rfl
@[go_sem] theorem ft_sz101 : szOf prog 101 = 1 := by kernel_rfl
@[go_sem] theorem ft_pr101 : prim prog 101 = true := by kernel_rfl
@[go_sem] theorem ft_hz101 : hasZero prog 101 = true := by kernel_rfl
@[go_sem] theorem ft_by101 : bytesOf prog 101 = 8 := by kernel_rfl
@[go_sem] theorem ft_sz102 : szOf prog 102 = 1 := by kernel_rfl
@[go_sem] theorem ft_pr102 : prim prog 102 = true := by kernel_rfl
@[go_sem] theorem ft_hz102 : hasZero prog 102 = true := by kernel_rfl
@[go_sem] theorem ft_by102 : bytesOf prog 102 = 0 := by kernel_rfl
@[go_sem] theorem ft_sz103 : szOf prog 103 = 1 := by kernel_rfl
@[go_sem] theorem ft_pr103 : prim prog 103 = true := by kernel_rfl
@[go_sem] theorem ft_hz103 : hasZero prog 103 = true := by kernel_rfl
@[go_sem] theorem ft_by103 : bytesOf prog 103 = 8 := by kernel_rfl
@[go_sem] theorem ft_sz104 : szOf prog 104 = 2 := by kernel_rfl
@[go_sem] theorem ft_pr104 : prim prog 104 = false := by kernel_rfl
@[go_sem] theorem ft_sc104 : isStruct prog 104 = true := by kernel_rfl
@[go_sem] theorem ft_hz104 : hasZero prog 104 = true := by kernel_rfl
@[go_sem] theorem ft_by104 : bytesOf prog 104 = 32 := by kernel_rfl
@[go_sem] theorem ft_fl104 : flds prog 104 = some [9, 9] := by kernel_rfl
@[go_sem] theorem ft_zo104 : zeroOf prog 104 = some (.agg 104 [(.str []), (.str [])]) := by kernel_rfl
@[go_sem] theorem ft_zi104 : zeroIs prog 104 = true := by kernel_rfl
@[go_sem] theorem ft_zf104 : zeroFs prog 104 = [(.str []), (.str [])] := by kernel_rfl
@[go_sem] theorem ft_sz105 : szOf prog 105 = 2 := by kernel_rfl
@[go_sem] theorem ft_pr105 : prim prog 105 = false := by kernel_rfl
@[go_sem] theorem ft_sc105 : isStruct prog 105 = true := by kernel_rfl
@[go_sem] theorem ft_hz105 : hasZero prog 105 = true := by kernel_rfl
@[go_sem] theorem ft_by105 : bytesOf prog 105 = 32 := by kernel_rfl
@[go_sem] theorem ft_fl105 : flds prog 105 = some [9, 9] := by kernel_rfl
@[go_sem] theorem ft_zo105 : zeroOf prog 105 = some (.agg 105 [(.str []), (.str [])]) := by kernel_rfl
@[go_sem] theorem ft_zi105 : zeroIs prog 105 = true := by kernel_rfl
@[go_sem] theorem ft_zf105 : zeroFs prog 105 = [(.str []), (.str [])] := by kernel_rfl
@[go_sem] theorem ft_sz106 : szOf prog 106 = 1 := by kernel_rfl
@[go_sem] theorem ft_pr106 : prim prog 106 = true := by kernel_rfl
@[go_sem] theorem ft_hz106 : hasZero prog 106 = true := by kernel_rfl
@[go_sem] theorem ft_by106 : bytesOf prog 106 = 8 := by kernel_rfl
@[go_sem] theorem ft_sz107 : szOf prog 107 = 1 := by kernel_rfl
@[go_sem] theorem ft_pr107 : prim prog 107 = true := by kernel_rfl
@[go_sem] theorem ft_hz107 : hasZero prog 107 = true := by kernel_rfl
@[go_sem] theorem ft_by107 : bytesOf prog 107 = 8 := by kernel_rfl
@[go_sem] theorem ft_sz108 : szOf prog 108 = 1 := by kernel_rfl
@[go_sem] theorem ft_pr108 : prim prog 108 = true := by kernel_rfl
@[go_sem] theorem ft_hz108 : hasZero prog 108 = true := by kernel_rfl
@[go_sem] theorem ft_by108 : bytesOf prog 108 = 8 := by kernel_rfl
@[go_sem] theorem ft_sz109 : szOf prog 109 = 1 := by kernel_rfl
@[go_sem] theorem ft_pr109 : prim prog 109 = true := by kernel_rfl
@[go_sem] theorem ft_hz109 : hasZero prog 109 = true := by kernel_rfl
@[go_sem] theorem ft_by109 : bytesOf prog 109 = 8 := by kernel_rfl
@[go_sem] theorem ft_sz110 : szOf prog 110 = 1 := by kernel_rfl
@[go_sem] theorem ft_pr110 : prim prog 110 = true := by kernel_rfl
@[go_sem] theorem ft_el110 : elT prog 110 = some 84 := by kernel_rfl
@[go_sem] theorem ft_hz110 : hasZero prog 110 = true := by kernel_rfl
@[go_sem] theorem ft_by110 : bytesOf prog 110 = 24 := by kernel_rfl
@[go_sem] theorem ft_zo110 : zeroOf prog 110 = some .nils := by kernel_rfl
@[go_sem] theorem ft_sz111 : szOf prog 111 = 2 := by kernel_rfl
@[go_sem] theorem ft_pr111 : prim prog 111 = false := by kernel_rfl
@[go_sem] theorem ft_sc111 : isStruct prog 111 = true := by kernel_rfl
@[go_sem] theorem ft_hz111 : hasZero prog 111 = true := by kernel_rfl
@[go_sem] theorem ft_by111 : bytesOf prog 111 = 32 := by kernel_rfl
@[go_sem] theorem ft_fl111 : flds prog 111 = some [3, 110] := by kernel_rfl
@[go_sem] theorem ft_zo111 : zeroOf prog 111 = some (.agg 111 [(.int .i64 0), .nils]) := by kernel_rfl
@[go_sem] theorem ft_zi111 : zeroIs prog 111 = true := by kernel_rfl
@[go_sem] theorem ft_zf111 : zeroFs prog 111 = [(.int .i64 0), .nils] := by kernel_rfl
@[go_sem] theorem ft_sz112 : szOf prog 112 = 2 := by kernel_rfl
@[go_sem] theorem ft_pr112 : prim prog 112 = false := by kernel_rfl
@[go_sem] theorem ft_sc112 : isStruct prog 112 = true := by kernel_rfl
@[go_sem] theorem ft_hz112 : hasZero prog 112 = true := by kernel_rfl
@[go_sem] theorem ft_by112 : bytesOf prog 112 = 32 := by kernel_rfl
@[go_sem] theorem ft_fl112 : flds prog 112 = some [3, 110] := by kernel_rfl
@[go_sem] theorem ft_zo112 : zeroOf prog 112 = some (.agg 112 [(.int .i64 0), .nils]) := by kernel_rfl
@[go_sem] theorem ft_zi112 : zeroIs prog 112 = true := by kernel_rfl
@[go_sem] theorem ft_zf112 : zeroFs prog 112 = [(.int .i64 0), .nils] := by kernel_rfl
@[go_sem] theorem ft_sz113 : szOf prog 113 = 1 := by kernel_rfl
@[go_sem] theorem ft_pr113 : prim prog 113 = true := by kernel_rfl
@[go_sem] theorem ft_el113 : elT prog 113 = some 34 := by kernel_rfl
@[go_sem] theorem ft_hz113 : hasZero prog 113 = true := by kernel_rfl
@[go_sem] theorem ft_by113 : bytesOf prog 113 = 24 := by kernel_rfl
@[go_sem] theorem ft_zo113 : zeroOf prog 113 = some .nils := by kernel_rfl
@[go_sem] theorem ft_sz114 : szOf prog 114 = 1 := by kernel_rfl
@[go_sem] theorem ft_pr114 : prim prog 114 = true := by kernel_rfl
@[go_sem] theorem ft_hz114 : hasZero prog 114 = true := by kernel_rfl
@[go_sem] theorem ft_by114 : bytesOf prog 114 = 8 := by kernel_rfl
@[go_sem] theorem ft_sz115 : szOf prog 115 = 1 := by kernel_rfl
@[go_sem] theorem ft_pr115 : prim prog 115 = true := by kernel_rfl
@[go_sem] theorem ft_hz115 : hasZero prog 115 = true := by kernel_rfl
@[go_sem] theorem ft_by115 : bytesOf prog 115 = 8 := by kernel_rfl
@[go_sem] theorem ft_sz116 : szOf prog 116 = 1 := by kernel_rfl
@[go_sem] theorem ft_pr116 : prim prog 116 = true := by kernel_rfl
@[go_sem] theorem ft_hz116 : hasZero prog 116 = true := by kernel_rfl
@[go_sem] theorem ft_by116 : bytesOf prog 116 = 8 := by kernel_rfl
@[go_sem] theorem ft_sz117 : szOf prog 117 = 1 := by kernel_rfl
@[go_sem] theorem ft_pr117 : prim prog 117 = true := by kernel_rfl
@[go_sem] theorem ft_hz117 : hasZero prog 117 = true := by kernel_rfl
@[go_sem] theorem ft_by117 : bytesOf prog 117 = 8 := by kernel_rfl
@[go_sem] theorem ft_sz118 : szOf prog 118 = 1 := by kernel_rfl
@[go_sem] theorem ft_pr118 : prim prog 118 = true := by kernel_rfl
@[go_sem] theorem ft_hz118 : hasZero prog 118 = true := by kernel_rfl
@[go_sem] theorem ft_by118 : bytesOf prog 118 = 8 := by kernel_rfl
@[go_sem] theorem ft_sz119 : szOf prog 119 = 1 := by kernel_rfl
@[go_sem] theorem ft_pr119 : prim prog 119 = true := by kernel_rfl
@[go_sem] theorem ft_hz119 : hasZero prog 119 = true := by kernel_rfl
@[go_sem] theorem ft_by119 : bytesOf prog 119 = 0 := by kernel_rfl
@[go_sem] theorem ft_sz120 : szOf prog 120 = 1 := by kernel_rfl
@[go_sem] theorem ft_pr120 : prim prog 120 = true := by kernel_rfl
@[go_sem] theorem ft_hz120 : hasZero prog 120 = true := by kernel_rfl
@[go_sem] theorem ft_by120 : bytesOf prog 120 = 8 := by kernel_rfl
@[go_sem] theorem ft_sz121 : szOf prog 121 = 1 := by kernel_rfl
@[go_sem] theorem ft_pr121 : prim prog 121 = true := by kernel_rfl
@[go_sem] theorem ft_pt121 : isPtrT prog 121 = true := by kernel_rfl
@[go_sem] theorem ft_hz121 : hasZero prog 121 = true := by kernel_rfl
@[go_sem] theorem ft_by121 : bytesOf prog 121 = 8 := by kernel_rfl
@[go_sem] theorem ft_zo121 : zeroOf prog 121 = some .nil := by kernel_rfl
@[go_sem] theorem ft_sz122 : szOf prog 122 = 1 := by kernel_rfl
@[go_sem] theorem ft_pr122 : prim prog 122 = true := by kernel_rfl
@[go_sem] theorem ft_hz122 : hasZero prog 122 = true := by kernel_rfl
@[go_sem] theorem ft_by122 : bytesOf prog 122 = 0 := by kernel_rfl
@[go_sem] theorem ft_sz123 : szOf prog 123 = 1 := by kernel_rfl
@[go_sem] theorem ft_pr123 : prim prog 123 = true := by kernel_rfl
@[go_sem] theorem ft_hz123 : hasZero prog 123 = true := by kernel_rfl
@[go_sem] theorem ft_by123 : bytesOf prog 123 = 8 := by kernel_rfl
@[go_sem] theorem ft_sz124 : szOf prog 124 = 1 := by kernel_rfl
@[go_sem] theorem ft_pr124 : prim prog 124 = true := by kernel_rfl
@[go_sem] theorem ft_hz124 : hasZero prog 124 = true := by kernel_rfl
@[go_sem] theorem ft_by124 : bytesOf prog 124 = 8 := by kernel_rfl
@[go_sem] theorem ft_sz125 : szOf prog 125 = 1 := by kernel_rfl
@[go_sem] theorem ft_pr125 : prim prog 125 = true := by kernel_rfl
@[go_sem] theorem ft_pt125 : isPtrT prog 125 = true := by kernel_rfl
@[go_sem] theorem ft_hz125 : hasZero prog 125 = true := by kernel_rfl
@[go_sem] theorem ft_by125 : bytesOf prog 125 = 8 := by kernel_rfl
@[go_sem] theorem ft_zo125 : zeroOf prog 125 = some .nil := by kernel_rfl
@[go_sem] theorem ft_sz126 : szOf prog 126 = 4 := by kernel_rfl
@[go_sem] theorem ft_pr126 : prim prog 126 = false := by kernel_rfl
@[go_sem] theorem ft_sc126 : isStruct prog 126 = true := by kernel_rfl
@[go_sem] theorem ft_hz126 : hasZero prog 126 = true := by kernel_rfl
@[go_sem] theorem ft_by126 : bytesOf prog 126 = 48 := by kernel_rfl
@[go_sem] theorem ft_fl126 : flds prog 126 = some [125, 3, 30, 3] := by kernel_rfl
@[go_sem] theorem ft_zo126 : zeroOf prog 126 = some (.agg 126 [.nil, (.int .i64 0), .nils, (.int .i64 0)]) := by kernel_rfl
@[go_sem] theorem ft_zi126 : zeroIs prog 126 = true := by kernel_rfl
@[go_sem] theorem ft_zf126 : zeroFs prog 126 = [.nil, (.int .i64 0), .nils, (.int .i64 0)] := by kernel_rfl
@[go_sem] theorem ft_sz127 : szOf prog 127 = 4 := by kernel_rfl
@[go_sem] theorem ft_pr127 : prim prog 127 = false := by kernel_rfl
@[go_sem] theorem ft_sc127 : isStruct prog 127 = true := by kernel_rfl
@[go_sem] theorem ft_hz127 : hasZero prog 127 = true := by kernel_rfl
@[go_sem] theorem ft_by127 : bytesOf prog 127 = 48 := by kernel_rfl
@[go_sem] theorem ft_fl127 : flds prog 127 = some [125, 3, 30, 3] := by kernel_rfl
@[go_sem] theorem ft_zo127 : zeroOf prog 127 = some (.agg 127 [.nil, (.int .i64 0), .nils, (.int .i64 0)]) := by kernel_rfl
@[go_sem] theorem ft_zi127 : zeroIs prog 127 = true := by kernel_rfl
@[go_sem] theorem ft_zf127 : zeroFs prog 127 = [.nil, (.int .i64 0), .nils, (.int .i64 0)] := by kernel_rfl
@[go_sem] theorem ft_sz128 : szOf prog 128 = 1 := by kernel_rfl
@[go_sem] theorem ft_pr128 : prim prog 128 = true := by kernel_rfl
@[go_sem] theorem ft_hz128 : hasZero prog 128 = true := by kernel_rfl
@[go_sem] theorem ft_by128 : bytesOf prog 128 = 8 := by kernel_rfl
@[go_sem] theorem ft_sz129 : szOf prog 129 = 2 := by kernel_rfl
@[go_sem] theorem ft_pr129 : prim prog 129 = false := by kernel_rfl
@[go_sem] theorem ft_hz129 : hasZero prog 129 = true := by kernel_rfl
@[go_sem] theorem ft_by129 : bytesOf prog 129 = 32 := by kernel_rfl
@[go_sem] theorem ft_ar129 : arrT prog 129 = some 9 := by kernel_rfl
@[go_sem] theorem ft_fl129 : flds prog 129 = some [9, 9] := by kernel_rfl
@[go_sem] theorem ft_zo129 : zeroOf prog 129 = some (.agg 129 [(.str []), (.str [])]) := by kernel_rfl
@[go_sem] theorem ft_zi129 : zeroIs prog 129 = true := by kernel_rfl
@[go_sem] theorem ft_zf129 : zeroFs prog 129 = [(.str []), (.str [])] := by kernel_rfl
@[go_sem] theorem ft_sz130 : szOf prog 130 = 6 := by kernel_rfl
@[go_sem] theorem ft_pr130 : prim prog 130 = false := by kernel_rfl
@[go_sem] theorem ft_hz130 : hasZero prog 130 = true := by kernel_rfl
@[go_sem] theorem ft_by130 : bytesOf prog 130 = 96 := by kernel_rfl
@[go_sem] theorem ft_ar130 : arrT prog 130 = some 129 := by kernel_rfl
@[go_sem] theorem ft_fl130 : flds prog 130 = some [129, 129, 129] := by kernel_rfl
@[go_sem] theorem ft_zo130 : zeroOf prog 130 = some (.agg 130 [(.agg 129 [(.str []), (.str [])]), (.agg 129 [(.str []), (.str [])]), (.agg 129 [(.str []), (.str [])])]) := by kernel_rfl
@[go_sem] theorem ft_zi130 : zeroIs prog 130 = true := by kernel_rfl
@[go_sem] theorem ft_zf130 : zeroFs prog 130 = [(.agg 129 [(.str []), (.str [])]), (.agg 129 [(.str []), (.str [])]), (.agg 129 [(.str []), (.str [])])] := by kernel_rfl
@[go_sem] theorem ft_sz131 : szOf prog 131 = 1 := by kernel_rfl
@[go_sem] theorem ft_pr131 : prim prog 131 = true := by kernel_rfl
@[go_sem] theorem ft_hz131 : hasZero prog 131 = true := by kernel_rfl
@[go_sem] theorem ft_by131 : bytesOf prog 131 = 8 := by kernel_rfl
@[go_sem] theorem ft_sz132 : szOf prog 132 = 1 := by kernel_rfl
@[go_sem] theorem ft_pr132 : prim prog 132 = true := by kernel_rfl
@[go_sem] theorem ft_hz132 : hasZero prog 132 = true := by kernel_rfl
@[go_sem] theorem ft_by132 : bytesOf prog 132 = 8 := by kernel_rfl
@[go_sem] theorem ft_sz133 : szOf prog 133 = 1 := by kernel_rfl
@[go_sem] theorem ft_pr133 : prim prog 133 = true := by kernel_rfl
@[go_sem] theorem ft_hz133 : hasZero prog 133 = true := by kernel_rfl
@[go_sem] theorem ft_by133 : bytesOf prog 133 = 8 := by kernel_rfl
@[go_sem] theorem ft_sz134 : szOf prog 134 = 2 := by kernel_rfl
@[go_sem] theorem ft_pr134 : prim prog 134 = false := by kernel_rfl
@[go_sem] theorem ft_hz134 : hasZero prog 134 = true := by kernel_rfl
@[go_sem] theorem ft_by134 : bytesOf prog 134 = 48 := by kernel_rfl
@[go_sem] theorem ft_ar134 : arrT prog 134 = some 35 := by kernel_rfl
@[go_sem] theorem ft_fl134 : flds prog 134 = some [35, 35] := by kernel_rfl
@[go_sem] theorem ft_zo134 : zeroOf prog 134 = some (.agg 134 [.nils, .nils]) := by kernel_rfl
@[go_sem] theorem ft_zi134 : zeroIs prog 134 = true := by kernel_rfl
@[go_sem] theorem ft_zf134 : zeroFs prog 134 = [.nils, .nils] := by kernel_rfl
@[go_sem] theorem ft_sz135 : szOf prog 135 = 1 := by kernel_rfl
@[go_sem] theorem ft_pr135 : prim prog 135 = true := by kernel_rfl
@[go_sem] theorem ft_hz135 : hasZero prog 135 = true := by kernel_rfl
@[go_sem] theorem ft_by135 : bytesOf prog 135 = 0 := by kernel_rfl
@[go_sem] theorem ft_sz136 : szOf prog 136 = 1 := by kernel_rfl
@[go_sem] theorem ft_pr136 : prim prog 136 = true := by kernel_rfl
@[go_sem] theorem ft_hz136 : hasZero prog 136 = true := by kernel_rfl
@[go_sem] theorem ft_by136 : bytesOf prog 136 = 8 := by kernel_rfl
@[go_sem] theorem ft_sz137 : szOf prog 137 = 1 := by kernel_rfl
@[go_sem] theorem ft_pr137 : prim prog 137 = true := by kernel_rfl
@[go_sem] theorem ft_hz137 : hasZero prog 137 = true := by kernel_rfl
@[go_sem] theorem ft_by137 : bytesOf prog 137 = 8 := by kernel_rfl
@[go_sem] theorem ft_sz138 : szOf prog 138 = 1 := by kernel_rfl
@[go_sem] theorem ft_pr138 : prim prog 138 = true := by kernel_rfl
@[go_sem] theorem ft_hz138 : hasZero prog 138 = true := by kernel_rfl
@[go_sem] theorem ft_by138 : bytesOf prog 138 = 8 := by kernel_rfl
@[go_sem] theorem ft_sz139 : szOf prog 139 = 1 := by kernel_rfl
@[go_sem] theorem ft_pr139 : prim prog 139 = true := by kernel_rfl
@[go_sem] theorem ft_hz139 : hasZero prog 139 = true := by kernel_rfl
@[go_sem] theorem ft_by139 : bytesOf prog 139 = 0 := by kernel_rfl
@[go_sem] theorem ft_sz140 : szOf prog 140 = 1 := by kernel_rfl
@[go_sem] theorem ft_pr140 : prim prog 140 = true := by kernel_rfl
@[go_sem] theorem ft_hz140 : hasZero prog 140 = true := by kernel_rfl
@[go_sem] theorem ft_by140 : bytesOf prog 140 = 8 := by kernel_rfl
@[go_sem] theorem ft_sz141 : szOf prog 141 = 1 := by kernel_rfl
@[go_sem] theorem ft_pr141 : prim prog 141 = true := by kernel_rfl
@[go_sem] theorem ft_hz141 : hasZero prog 141 = true := by kernel_rfl
@[go_sem] theorem ft_by141 : bytesOf prog 141 = 8 := by kernel_rfl
@[go_sem] theorem ft_sz142 : szOf prog 142 = 1 := by kernel_rfl
@[go_sem] theorem ft_pr142 : prim prog 142 = true := by kernel_rfl
@[go_sem] theorem ft_hz142 : hasZero prog 142 = true := by kernel_rfl
@[go_sem] theorem ft_by142 : bytesOf prog 142 = 8 := by kernel_rfl
@[go_sem] theorem ft_sz143 : szOf prog 143 = 1 := by kernel_rfl
@[go_sem] theorem ft_pr143 : prim prog 143 = true := by kernel_rfl
@[go_sem] theorem ft_hz143 : hasZero prog 143 = true := by kernel_rfl
@[go_sem] theorem ft_by143 : bytesOf prog 143 = 8 := by kernel_rfl
@[go_sem] theorem ft_sz144 : szOf prog 144 = 1 := by kernel_rfl
@[go_sem] theorem ft_pr144 : prim prog 144 = true := by kernel_rfl
@[go_sem] theorem ft_it144 : intT prog 144 = some .u64 := by kernel_rfl
@[go_sem] theorem ft_hz144 : hasZero prog 144 = true := by kernel_rfl
@[go_sem] theorem ft_by144 : bytesOf prog 144 = 8 := by kernel_rfl
@[go_sem] theorem ft_zo144 : zeroOf prog 144 = some (.int .u64 0) := by kernel_rfl
@[go_sem] theorem ft_sz145 : szOf prog 145 = 1 := by kernel_rfl
@[go_sem] theorem ft_pr145 : prim prog 145 = true := by kernel_rfl
@[go_sem] theorem ft_hz145 : hasZero prog 145 = true := by kernel_rfl
@[go_sem] theorem ft_by145 : bytesOf prog 145 = 8 := by kernel_rfl
@[go_sem] theorem ft_sz146 : szOf prog 146 = 1 := by kernel_rfl
@[go_sem] theorem ft_pr146 : prim prog 146 = true := by kernel_rfl
@[go_sem] theorem ft_hz146 : hasZero prog 146 = true := by kernel_rfl
@[go_sem] theorem ft_by146 : bytesOf prog 146 = 8 := by kernel_rfl
@[go_sem] theorem ft_sz147 : szOf prog 147 = 1 := by kernel_rfl
@[go_sem] theorem ft_pr147 : prim prog 147 = true := by kernel_rfl
@[go_sem] theorem ft_hz147 : hasZero prog 147 = true := by kernel_rfl
@[go_sem] theorem ft_by147 : bytesOf prog 147 = 8 := by kernel_rfl
@[go_sem] theorem ft_sz148 : szOf prog 148 = 1 := by kernel_rfl
@[go_sem] theorem ft_pr148 : prim prog 148 = true := by kernel_rfl
@[go_sem] theorem ft_hz148 : hasZero prog 148 = true := by kernel_rfl
@[go_sem] theorem ft_by148 : bytesOf prog 148 = 8 := by kernel_rfl
@[go_sem] theorem ft_sz149 : szOf prog 149 = 1 := by kernel_rfl
@[go_sem] theorem ft_pr149 : prim prog 149 = true := by kernel_rfl
@[go_sem] theorem ft_hz149 : hasZero prog 149 = true := by kernel_rfl
@[go_sem] theorem ft_by149 : bytesOf prog 149 = 8 := by kernel_rfl
@[go_sem] theorem ft_sz150 : szOf prog 150 = 1 := by kernel_rfl
@[go_sem] theorem ft_pr150 : prim prog 150 = true := by kernel_rfl
@[go_sem] theorem ft_hz150 : hasZero prog 150 = true := by kernel_rfl
@[go_sem] theorem ft_by150 : bytesOf prog 150 = 8 := by kernel_rfl
@[go_sem] theorem ft_sz151 : szOf prog 151 = 1 := by kernel_rfl
@[go_sem] theorem ft_pr151 : prim prog 151 = true := by kernel_rfl
@[go_sem] theorem ft_hz151 : hasZero prog 151 = true := by kernel_rfl
@[go_sem] theorem ft_by151 : bytesOf prog 151 = 8 := by kernel_rfl
@[go_sem] theorem ft_sz152 : szOf prog 152 = 1 := by kernel_rfl
@[go_sem] theorem ft_pr152 : prim prog 152 = true := by kernel_rfl
@[go_sem] theorem ft_hz152 : hasZero prog 152 = true := by kernel_rfl
@[go_sem] theorem ft_by152 : bytesOf prog 152 = 8 := by kernel_rfl
@[go_sem] theorem ft_sz153 : szOf prog 153 = 1 := by kernel_rfl
@[go_sem] theorem ft_pr153 : prim prog 153 = true := by kernel_rfl
@[go_sem] theorem ft_hz153 : hasZero prog 153 = true := by kernel_rfl
@[go_sem] theorem ft_by153 : bytesOf prog 153 = 8 := by kernel_rfl
@[go_sem] theorem ft_sz154 : szOf prog 154 = 1 := by kernel_rfl
@[go_sem] theorem ft_pr154 : prim prog 154 = true := by kernel_rfl
@[go_sem] theorem ft_hz154 : hasZero prog 154 = true := by kernel_rfl
@[go_sem] theorem ft_by154 : bytesOf prog 154 = 8 := by kernel_rfl
@[go_sem] theorem ft_sz155 : szOf prog 155 = 1 := by kernel_rfl
@[go_sem] theorem ft_pr155 : prim prog 155 = true := by kernel_rfl
@[go_sem] theorem ft_hz155 : hasZero prog 155 = true := by kernel_rfl
@[go_sem] theorem ft_by155 : bytesOf prog 155 = 8 := by kernel_rfl
@[go_sem] theorem ft_sz156 : szOf prog 156 = 4 := by kernel_rfl
@[go_sem] theorem ft_pr156 : prim prog 156 = false := by kernel_rfl
@[go_sem] theorem ft_sc156 : isStruct prog 156 = true := by kernel_rfl
@[go_sem] theorem ft_hz156 : hasZero prog 156 = true := by kernel_rfl
@[go_sem] theorem ft_by156 : bytesOf prog 156 = 96 := by kernel_rfl
@[go_sem] theorem ft_fl156 : flds prog 156 = some [110, 30, 84, 30] := by kernel_rfl
@[go_sem] theorem ft_zo156 : zeroOf prog 156 = some (.agg 156 [.nils, .nils, .nils, .nils]) := by kernel_rfl
@[go_sem] theorem ft_zi156 : zeroIs prog 156 = true := by kernel_rfl
@[go_sem] theorem ft_zf156 : zeroFs prog 156 = [.nils, .nils, .nils, .nils] := by kernel_rfl
@[go_sem] theorem ft_sz157 : szOf prog 157 = 4 := by kernel_rfl
@[go_sem] theorem ft_pr157 : prim prog 157 = false := by kernel_rfl
@[go_sem] theorem ft_sc157 : isStruct prog 157 = true := by kernel_rfl
@[go_sem] theorem ft_hz157 : hasZero prog 157 = true := by kernel_rfl
@[go_sem] theorem ft_by157 : bytesOf prog 157 = 96 := by kernel_rfl
@[go_sem] theorem ft_fl157 : flds prog 157 = some [110, 30, 84, 30] := by kernel_rfl
@[go_sem] theorem ft_zo157 : zeroOf prog 157 = some (.agg 157 [.nils, .nils, .nils, .nils]) := by kernel_rfl
@[go_sem] theorem ft_zi157 : zeroIs prog 157 = true := by kernel_rfl
@[go_sem] theorem ft_zf157 : zeroFs prog 157 = [.nils, .nils, .nils, .nils] := by kernel_rfl
@[go_sem] theorem ft_sz158 : szOf prog 158 = 1 := by kernel_rfl
@[go_sem] theorem ft_pr158 : prim prog 158 = true := by kernel_rfl
@[go_sem] theorem ft_hz158 : hasZero prog 158 = true := by kernel_rfl
@[go_sem] theorem ft_by158 : bytesOf prog 158 = 8 := by kernel_rfl
@[go_sem] theorem ft_sz159 : szOf prog 159 = 1 := by kernel_rfl
@[go_sem] theorem ft_pr159 : prim prog 159 = true := by kernel_rfl
@[go_sem] theorem ft_hz159 : hasZero prog 159 = true := by kernel_rfl
@[go_sem] theorem ft_by159 : bytesOf prog 159 = 8 := by kernel_rfl
@[go_sem] theorem ft_sz160 : szOf prog 160 = 1 := by kernel_rfl
@[go_sem] theorem ft_pr160 : prim prog 160 = true := by kernel_rfl
@[go_sem] theorem ft_hz160 : hasZero prog 160 = true := by kernel_rfl
@[go_sem] theorem ft_by160 : bytesOf prog 160 = 8 := by kernel_rfl
@[go_sem] theorem ft_sz161 : szOf prog 161 = 1 := by kernel_rfl
@[go_sem] theorem ft_pr161 : prim prog 161 = true := by kernel_rfl
@[go_sem] theorem ft_hz161 : hasZero prog 161 = true := by kernel_rfl
@[go_sem] theorem ft_by161 : bytesOf prog 161 = 8 := by kernel_rfl
@[go_sem] theorem ft_sz162 : szOf prog 162 = 1 := by kernel_rfl
@[go_sem] theorem ft_pr162 : prim prog 162 = true := by kernel_rfl
@[go_sem] theorem ft_hz162 : hasZero prog 162 = true := by kernel_rfl
@[go_sem] theorem ft_by162 : bytesOf prog 162 = 8 := by kernel_rfl
@[go_sem] theorem ft_sz163 : szOf prog 163 = 1 := by kernel_rfl
@[go_sem] theorem ft_pr163 : prim prog 163 = true := by kernel_rfl
@[go_sem] theorem ft_hz163 : hasZero prog 163 = true := by kernel_rfl
@[go_sem] theorem ft_by163 : bytesOf prog 163 = 8 := by kernel_rfl
@[go_sem] theorem ft_sz164 : szOf prog 164 = 1 := by kernel_rfl
@[go_sem] theorem ft_pr164 : prim prog 164 = true := by kernel_rfl
@[go_sem] theorem ft_hz164 : hasZero prog 164 = true := by kernel_rfl
@[go_sem] theorem ft_by164 : bytesOf prog 164 = 0 := by kernel_rfl
@[go_sem] theorem ft_sz165 : szOf prog 165 = 1 := by kernel_rfl
@[go_sem] theorem ft_pr165 : prim prog 165 = true := by kernel_rfl
@[go_sem] theorem ft_hz165 : hasZero prog 165 = true := by kernel_rfl
@[go_sem] theorem ft_by165 : bytesOf prog 165 = 8 := by kernel_rfl
@[go_sem] theorem ft_sz166 : szOf prog 166 = 1 := by kernel_rfl
@[go_sem] theorem ft_pr166 : prim prog 166 = true := by kernel_rfl
@[go_sem] theorem ft_hz166 : hasZero prog 166 = true := by kernel_rfl
@[go_sem] theorem ft_by166 : bytesOf prog 166 = 8 := by kernel_rfl
@[go_sem] theorem ft_sz167 : szOf prog 167 = 1 := by kernel_rfl
@[go_sem] theorem ft_pr167 : prim prog 167 = true := by kernel_rfl
@[go_sem] theorem ft_hz167 : hasZero prog 167 = true := by kernel_rfl
@[go_sem] theorem ft_by167 : bytesOf prog 167 = 8 := by kernel_rfl
@[go_sem] theorem ft_sz168 : szOf prog 168 = 1 := by kernel_rfl
@[go_sem] theorem ft_pr168 : prim prog 168 = true := by kernel_rfl
@[go_sem] theorem ft_hz168 : hasZero prog 168 = true := by kernel_rfl
@[go_sem] theorem ft_by168 : bytesOf prog 168 = 8 := by kernel_rfl
@[go_sem] theorem ft_sz169 : szOf prog 169 = 1 := by kernel_rfl
@[go_sem] theorem ft_pr169 : prim prog 169 = true := by kernel_rfl
@[go_sem] theorem ft_hz169 : hasZero prog 169 = true := by kernel_rfl
@[go_sem] theorem ft_by169 : bytesOf prog 169 = 8 := by kernel_rfl
@[go_sem] theorem ft_sz170 : szOf prog 170 = 1 := by kernel_rfl
@[go_sem] theorem ft_pr170 : prim prog 170 = true := by kernel_rfl
@[go_sem] theorem ft_hz170 : hasZero prog 170 = true := by kernel_rfl
@[go_sem] theorem ft_by170 : bytesOf prog 170 = 8 := by kernel_rfl
@[go_sem] theorem ft_sz171 : szOf prog 171 = 1 := by kernel_rfl
@[go_sem] theorem ft_pr171 : prim prog 171 = true := by kernel_rfl
@[go_sem] theorem ft_hz171 : hasZero prog 171 = true := by kernel_rfl
@[go_sem] theorem ft_by171 : bytesOf prog 171 = 8 := by kernel_rfl
@[go_sem] theorem ft_sz172 : szOf prog 172 = 1 := by kernel_rfl
@[go_sem] theorem ft_pr172 : prim prog 172 = true := by kernel_rfl
@[go_sem] theorem ft_hz172 : hasZero prog 172 = true := by kernel_rfl
@[go_sem] theorem ft_by172 : bytesOf prog 172 = 8 := by kernel_rfl
@[go_sem] theorem ft_sz173 : szOf prog 173 = 1 := by kernel_rfl
@[go_sem] theorem ft_pr173 : prim prog 173 = true := by kernel_rfl
@[go_sem] theorem ft_hz173 : hasZero prog 173 = true := by kernel_rfl
@[go_sem] theorem ft_by173 : bytesOf prog 173 = 8 := by kernel_rfl
@[go_sem] theorem ft_sz174 : szOf prog 174 = 1 := by kernel_rfl
@[go_sem] theorem ft_pr174 : prim prog 174 = true := by kernel_rfl
@[go_sem] theorem ft_hz174 : hasZero prog 174 = true := by kernel_rfl
@[go_sem] theorem ft_by174 : bytesOf prog 174 = 8 := by kernel_rfl
@[go_sem] theorem ft_sz175 : szOf prog 175 = 1 := by kernel_rfl
@[go_sem] theorem ft_pr175 : prim prog 175 = true := by kernel_rfl
@[go_sem] theorem ft_hz175 : hasZero prog 175 = true := by kernel_rfl
@[go_sem] theorem ft_by175 : bytesOf prog 175 = 8 := by kernel_rfl
@[go_sem] theorem ft_sz176 : szOf prog 176 = 1 := by kernel_rfl
@[go_sem] theorem ft_pr176 : prim prog 176 = true := by kernel_rfl
@[go_sem] theorem ft_hz176 : hasZero prog 176 = true := by kernel_rfl
@[go_sem] theorem ft_by176 : bytesOf prog 176 = 8 := by kernel_rfl
@[go_sem] theorem ft_sz177 : szOf prog 177 = 1 := by kernel_rfl
@[go_sem] theorem ft_pr177 : prim prog 177 = true := by kernel_rfl
@[go_sem] theorem ft_hz177 : hasZero prog 177 = true := by kernel_rfl
@[go_sem] theorem ft_by177 : bytesOf prog 177 = 8 := by kernel_rfl
@[go_sem] theorem ft_sz178 : szOf prog 178 = 1 := by kernel_rfl
@[go_sem] theorem ft_pr178 : prim prog 178 = true := by kernel_rfl
@[go_sem] theorem ft_pt178 : isPtrT prog 178 = true := by kernel_rfl
@[go_sem] theorem ft_hz178 : hasZero prog 178 = true := by kernel_rfl
@[go_sem] theorem ft_by178 : bytesOf prog 178 = 8 := by kernel_rfl
@[go_sem] theorem ft_zo178 : zeroOf prog 178 = some .nil := by kernel_rfl
@[go_sem] theorem ft_sz179 : szOf prog 179 = 2 := by kernel_rfl
@[go_sem] theorem ft_pr179 : prim prog 179 = false := by kernel_rfl
@[go_sem] theorem ft_sc179 : isStruct prog 179 = true := by kernel_rfl
@[go_sem] theorem ft_hz179 : hasZero prog 179 = true := by kernel_rfl
@[go_sem] theorem ft_by179 : bytesOf prog 179 = 32 := by kernel_rfl
@[go_sem] theorem ft_fl179 : flds prog 179 = some [9, 9] := by kernel_rfl
@[go_sem] theorem ft_zo179 : zeroOf prog 179 = some (.agg 179 [(.str []), (.str [])]) := by kernel_rfl
@[go_sem] theorem ft_zi179 : zeroIs prog 179 = true := by kernel_rfl
@[go_sem] theorem ft_zf179 : zeroFs prog 179 = [(.str []), (.str [])] := by kernel_rfl
@[go_sem] theorem ft_sz180 : szOf prog 180 = 2 := by kernel_rfl
@[go_sem] theorem ft_pr180 : prim prog 180 = false := by kernel_rfl
@[go_sem] theorem ft_sc180 : isStruct prog 180 = true := by kernel_rfl
@[go_sem] theorem ft_hz180 : hasZero prog 180 = true := by kernel_rfl
@[go_sem] theorem ft_by180 : bytesOf prog 180 = 32 := by kernel_rfl
@[go_sem] theorem ft_fl180 : flds prog 180 = some [9, 9] := by kernel_rfl
@[go_sem] theorem ft_zo180 : zeroOf prog 180 = some (.agg 180 [(.str []), (.str [])]) := by kernel_rfl
@[go_sem] theorem ft_zi180 : zeroIs prog 180 = true := by kernel_rfl
@[go_sem] theorem ft_zf180 : zeroFs prog 180 = [(.str []), (.str [])] := by kernel_rfl
@[go_sem] theorem ft_sz181 : szOf prog 181 = 1 := by kernel_rfl
@[go_sem] theorem ft_pr181 : prim prog 181 = true := by kernel_rfl
@[go_sem] theorem ft_hz181 : hasZero prog 181 = true := by kernel_rfl
@[go_sem] theorem ft_by181 : bytesOf prog 181 = 8 := by kernel_rfl
@[go_sem] theorem ft_sz182 : szOf prog 182 = 1 := by kernel_rfl
@[go_sem] theorem ft_pr182 : prim prog 182 = true := by kernel_rfl
@[go_sem] theorem ft_it182 : intT prog 182 = some .i64 := by kernel_rfl
@[go_sem] theorem ft_hz182 : hasZero prog 182 = true := by kernel_rfl
@[go_sem] theorem ft_by182 : bytesOf prog 182 = 8 := by kernel_rfl
@[go_sem] theorem ft_zo182 : zeroOf prog 182 = some (.int .i64 0) := by kernel_rfl
@[go_sem] theorem ft_sz183 : szOf prog 183 = 1 := by kernel_rfl
@[go_sem] theorem ft_pr183 : prim prog 183 = true := by kernel_rfl
@[go_sem] theorem ft_hz183 : hasZero prog 183 = true := by kernel_rfl
@[go_sem] theorem ft_by183 : bytesOf prog 183 = 0 := by kernel_rfl
@[go_sem] theorem ft_sz184 : szOf prog 184 = 1 := by kernel_rfl
@[go_sem] theorem ft_pr184 : prim prog 184 = true := by kernel_rfl
@[go_sem] theorem ft_hz184 : hasZero prog 184 = true := by kernel_rfl
@[go_sem] theorem ft_by184 : bytesOf prog 184 = 8 := by kernel_rfl
@[go_sem] theorem ft_sz185 : szOf prog 185 = 1 := by kernel_rfl
@[go_sem] theorem ft_pr185 : prim prog 185 = true := by kernel_rfl
@[go_sem] theorem ft_hz185 : hasZero prog 185 = true := by kernel_rfl
@[go_sem] theorem ft_by185 : bytesOf prog 185 = 8 := by kernel_rfl
@[go_sem] theorem ft_sz186 : szOf prog 186 = 1 := by kernel_rfl
@[go_sem] theorem ft_pr186 : prim prog 186 = true := by kernel_rfl
@[go_sem] theorem ft_hz186 : hasZero prog 186 = true := by kernel_rfl
@[go_sem] theorem ft_by186 : bytesOf prog 186 = 8 := by kernel_rfl
@[go_sem] theorem ft_sz187 : szOf prog 187 = 1 := by kernel_rfl
@[go_sem] theorem ft_pr187 : prim prog 187 = true := by kernel_rfl
@[go_sem] theorem ft_hz187 : hasZero prog 187 = true := by kernel_rfl
@[go_sem] theorem ft_by187 : bytesOf prog 187 = 8 := by kernel_rfl
@[go_sem] theorem ft_sz188 : szOf prog 188 = 1 := by kernel_rfl
@[go_sem] theorem ft_pr188 : prim prog 188 = true := by kernel_rfl
@[go_sem] theorem ft_hz188 : hasZero prog 188 = true := by kernel_rfl
@[go_sem] theorem ft_by188 : bytesOf prog 188 = 8 := by kernel_rfl
@[go_sem] theorem ft_sz189 : szOf prog 189 = 1 := by kernel_rfl
@[go_sem] theorem ft_pr189 : prim prog 189 = true := by kernel_rfl
@[go_sem] theorem ft_it189 : intT prog 189 = some .u32 := by kernel_rfl
@[go_sem] theorem ft_hz189 : hasZero prog 189 = true := by kernel_rfl
@[go_sem] theorem ft_by189 : bytesOf prog 189 = 4 := by kernel_rfl
@[go_sem] theorem ft_zo189 : zeroOf prog 189 = some (.int .u32 0) := by kernel_rfl
@[go_sem] theorem ft_sz190 : szOf prog 190 = 1 := by kernel_rfl
@[go_sem] theorem ft_pr190 : prim prog 190 = true := by kernel_rfl
@[go_sem] theorem ft_hz190 : hasZero prog 190 = true := by kernel_rfl
@[go_sem] theorem ft_by190 : bytesOf prog 190 = 8 := by kernel_rfl
@[go_sem] theorem ft_sz191 : szOf prog 191 = 1 := by kernel_rfl
@[go_sem] theorem ft_pr191 : prim prog 191 = true := by kernel_rfl
@[go_sem] theorem ft_it191 : intT prog 191 = some .u64 := by kernel_rfl
@[go_sem] theorem ft_hz191 : hasZero prog 191 = true := by kernel_rfl
@[go_sem] theorem ft_by191 : bytesOf prog 191 = 8 := by kernel_rfl
@[go_sem] theorem ft_zo191 : zeroOf prog 191 = some (.int .u64 0) := by kernel_rfl
@[go_sem] theorem ft_sz192 : szOf prog 192 = 1 := by kernel_rfl
@[go_sem] theorem ft_pr192 : prim prog 192 = true := by kernel_rfl
@[go_sem] theorem ft_hz192 : hasZero prog 192 = true := by kernel_rfl
@[go_sem] theorem ft_by192 : bytesOf prog 192 = 8 := by kernel_rfl
@[go_sem] theorem ft_sz193 : szOf prog 193 = 1 := by kernel_rfl
@[go_sem] theorem ft_pr193 : prim prog 193 = true := by kernel_rfl
@[go_sem] theorem ft_hz193 : hasZero prog 193 = true := by kernel_rfl
@[go_sem] theorem ft_by193 : bytesOf prog 193 = 0 := by kernel_rfl
@[go_sem] theorem ft_sz194 : szOf prog 194 = 1 := by kernel_rfl
@[go_sem] theorem ft_pr194 : prim prog 194 = true := by kernel_rfl
@[go_sem] theorem ft_hz194 : hasZero prog 194 = true := by kernel_rfl
@[go_sem] theorem ft_by194 : bytesOf prog 194 = 8 := by kernel_rfl
@[go_sem] theorem ft_sz195 : szOf prog 195 = 1 := by kernel_rfl
@[go_sem] theorem ft_pr195 : prim prog 195 = true := by kernel_rfl
@[go_sem] theorem ft_it195 : intT prog 195 = some .u64 := by kernel_rfl
@[go_sem] theorem ft_hz195 : hasZero prog 195 = true := by kernel_rfl
@[go_sem] theorem ft_by195 : bytesOf prog 195 = 8 := by kernel_rfl
@[go_sem] theorem ft_zo195 : zeroOf prog 195 = some (.int .u64 0) := by kernel_rfl
@[go_sem] theorem ft_sz196 : szOf prog 196 = 1 := by kernel_rfl
@[go_sem] theorem ft_pr196 : prim prog 196 = true := by kernel_rfl
@[go_sem] theorem ft_hz196 : hasZero prog 196 = true := by kernel_rfl
@[go_sem] theorem ft_by196 : bytesOf prog 196 = 8 := by kernel_rfl
@[go_sem] theorem ft_sz197 : szOf prog 197 = 1 := by kernel_rfl
@[go_sem] theorem ft_pr197 : prim prog 197 = true := by kernel_rfl
@[go_sem] theorem ft_hz197 : hasZero prog 197 = true := by kernel_rfl
@[go_sem] theorem ft_by197 : bytesOf prog 197 = 8 := by kernel_rfl
@[go_sem] theorem ft_sz198 : szOf prog 198 = 1 := by kernel_rfl
@[go_sem] theorem ft_pr198 : prim prog 198 = true := by kernel_rfl
@[go_sem] theorem ft_hz198 : hasZero prog 198 = true := by kernel_rfl
@[go_sem] theorem ft_by198 : bytesOf prog 198 = 8 := by kernel_rfl
@[go_sem] theorem ft_sz199 : szOf prog 199 = 1 := by kernel_rfl
@[go_sem] theorem ft_pr199 : prim prog 199 = true := by kernel_rfl
@[go_sem] theorem ft_pt199 : isPtrT prog 199 = true := by kernel_rfl
@[go_sem] theorem ft_hz199 : hasZero prog 199 = true := by kernel_rfl
@[go_sem] theorem ft_by199 : bytesOf prog 199 = 8 := by kernel_rfl
@[go_sem] theorem ft_zo199 : zeroOf prog 199 = some .nil := by kernel_rfl
@[go_sem] theorem ft_sz200 : szOf prog 200 = 1 := by kernel_rfl
@[go_sem] theorem ft_pr200 : prim prog 200 = true := by kernel_rfl
@[go_sem] theorem ft_hz200 : hasZero prog 200 = true := by kernel_rfl
@[go_sem] theorem ft_by200 : bytesOf prog 200 = 8 := by kernel_rfl
@[go_sem] theorem ft_sz201 : szOf prog 201 = 1 := by kernel_rfl
@[go_sem] theorem ft_pr201 : prim prog 201 = true := by kernel_rfl
@[go_sem] theorem ft_hz201 : hasZero prog 201 = true := by kernel_rfl
@[go_sem] theorem ft_by201 : bytesOf prog 201 = 8 := by kernel_rfl
@[go_sem] theorem ft_sz202 : szOf prog 202 = 1 := by kernel_rfl
@[go_sem] theorem ft_pr202 : prim prog 202 = true := by kernel_rfl
@[go_sem] theorem ft_pt202 : isPtrT prog 202 = true := by kernel_rfl
@[go_sem] theorem ft_hz202 : hasZero prog 202 = true := by kernel_rfl
@[go_sem] theorem ft_by202 : bytesOf prog 202 = 8 := by kernel_rfl
@[go_sem] theorem ft_zo202 : zeroOf prog 202 = some .nil := by kernel_rfl
@[go_sem] theorem ft_sz203 : szOf prog 203 = 1 := by kernel_rfl
@[go_sem] theorem ft_pr203 : prim prog 203 = true := by kernel_rfl
@[go_sem] theorem ft_hz203 : hasZero prog 203 = true := by kernel_rfl
@[go_sem] theorem ft_by203 : bytesOf prog 203 = 0 := by kernel_rfl
@[go_sem] theorem ft_sz204 : szOf prog 204 = 1 := by kernel_rfl
@[go_sem] theorem ft_pr204 : prim prog 204 = true := by kernel_rfl
@[go_sem] theorem ft_hz204 : hasZero prog 204 = true := by kernel_rfl
@[go_sem] theorem ft_by204 : bytesOf prog 204 = 8 := by kernel_rfl
@[go_sem] theorem ft_sz205 : szOf prog 205 = 1 := by kernel_rfl
@[go_sem] theorem ft_pr205 : prim prog 205 = true := by kernel_rfl
@[go_sem] theorem ft_hz205 : hasZero prog 205 = true := by kernel_rfl
@[go_sem] theorem ft_by205 : bytesOf prog 205 = 0 := by kernel_rfl
@[go_sem] theorem ft_sz206 : szOf prog 206 = 1 := by kernel_rfl
@[go_sem] theorem ft_pr206 : prim prog 206 = true := by kernel_rfl
@[go_sem] theorem ft_hz206 : hasZero prog 206 = true := by kernel_rfl
@[go_sem] theorem ft_by206 : bytesOf prog 206 = 8 := by kernel_rfl
@[go_sem] theorem ft_sz207 : szOf prog 207 = 1 := by kernel_rfl
@[go_sem] theorem ft_pr207 : prim prog 207 = true := by kernel_rfl
@[go_sem] theorem ft_hz207 : hasZero prog 207 = true := by kernel_rfl
@[go_sem] theorem ft_by207 : bytesOf prog 207 = 8 := by kernel_rfl
@[go_sem] theorem ft_sz208 : szOf prog 208 = 256 := by kernel_rfl
@[go_sem] theorem ft_pr208 : prim prog 208 = false := by kernel_rfl
@[go_sem] theorem ft_hz208 : hasZero prog 208 = true := by kernel_rfl
@[go_sem] theorem ft_by208 : bytesOf prog 208 = 256 := by kernel_rfl
@[go_sem] theorem ft_ar208 : arrT prog 208 = some 4 := by kernel_rfl
@[go_sem] theorem ft_sz209 : szOf prog 209 = 256 := by kernel_rfl
@[go_sem] theorem ft_pr209 : prim prog 209 = false := by kernel_rfl
@[go_sem] theorem ft_hz209 : hasZero prog 209 = true := by kernel_rfl
@[go_sem] theorem ft_by209 : bytesOf prog 209 = 256 := by kernel_rfl
@[go_sem] theorem ft_ar209 : arrT prog 209 = some 4 := by kernel_rfl
@[go_sem] theorem ft_sz210 : szOf prog 210 = 1 := by kernel_rfl
@[go_sem] theorem ft_pr210 : prim prog 210 = true := by kernel_rfl
@[go_sem] theorem ft_hz210 : hasZero prog 210 = true := by kernel_rfl
@[go_sem] theorem ft_by210 : bytesOf prog 210 = 0 := by kernel_rfl
@[go_sem] theorem ft_sz211 : szOf prog 211 = 1 := by kernel_rfl
@[go_sem] theorem ft_pr211 : prim prog 211 = true := by kernel_rfl
@[go_sem] theorem ft_hz211 : hasZero prog 211 = true := by kernel_rfl
@[go_sem] theorem ft_by211 : bytesOf prog 211 = 8 := by kernel_rfl
@[go_sem] theorem ft_sz212 : szOf prog 212 = 1 := by kernel_rfl
@[go_sem] theorem ft_pr212 : prim prog 212 = true := by kernel_rfl
@[go_sem] theorem ft_hz212 : hasZero prog 212 = true := by kernel_rfl
@[go_sem] theorem ft_by212 : bytesOf prog 212 = 8 := by kernel_rfl
@[go_sem] theorem ft_sz213 : szOf prog 213 = 1 := by kernel_rfl
@[go_sem] theorem ft_pr213 : prim prog 213 = true := by kernel_rfl
@[go_sem] theorem ft_pt213 : isPtrT prog 213 = true := by kernel_rfl
@[go_sem] theorem ft_hz213 : hasZero prog 213 = true := by kernel_rfl
@[go_sem] theorem ft_by213 : bytesOf prog 213 = 8 := by kernel_rfl
@[go_sem] theorem ft_zo213 : zeroOf prog 213 = some .nil := by kernel_rfl
@[go_sem] theorem ft_sz214 : szOf prog 214 = 1 := by kernel_rfl
@[go_sem] theorem ft_pr214 : prim prog 214 = true := by kernel_rfl
@[go_sem] theorem ft_hz214 : hasZero prog 214 = true := by kernel_rfl
@[go_sem] theorem ft_by214 : bytesOf prog 214 = 0 := by kernel_rfl
@[go_sem] theorem ft_sz215 : szOf prog 215 = 1 := by kernel_rfl
@[go_sem] theorem ft_pr215 : prim prog 215 = true := by kernel_rfl
@[go_sem] theorem ft_hz215 : hasZero prog 215 = true := by kernel_rfl
@[go_sem] theorem ft_by215 : bytesOf prog 215 = 8 := by kernel_rfl
@[go_sem] theorem ft_sz216 : szOf prog 216 = 1 := by kernel_rfl
@[go_sem] theorem ft_pr216 : prim prog 216 = true := by kernel_rfl
@[go_sem] theorem ft_hz216 : hasZero prog 216 = true := by kernel_rfl
@[go_sem] theorem ft_by216 : bytesOf prog 216 = 8 := by kernel_rfl
@[go_sem] theorem ft_sz217 : szOf prog 217 = 1 := by kernel_rfl
@[go_sem] theorem ft_pr217 : prim prog 217 = true := by kernel_rfl
@[go_sem] theorem ft_hz217 : hasZero prog 217 = true := by kernel_rfl
@[go_sem] theorem ft_by217 : bytesOf prog 217 = 8 := by kernel_rfl
@[go_sem] theorem ft_sz218 : szOf prog 218 = 256 := by kernel_rfl
@[go_sem] theorem ft_pr218 : prim prog 218 = false := by kernel_rfl
@[go_sem] theorem ft_hz218 : hasZero prog 218 = true := by kernel_rfl
@[go_sem] theorem ft_by218 : bytesOf prog 218 = 256 := by kernel_rfl
@[go_sem] theorem ft_ar218 : arrT prog 218 = some 5 := by kernel_rfl
@[go_sem] theorem ft_sz219 : szOf prog 219 = 2 := by kernel_rfl
@[go_sem] theorem ft_pr219 : prim prog 219 = false := by kernel_rfl
@[go_sem] theorem ft_sc219 : isStruct prog 219 = true := by kernel_rfl
@[go_sem] theorem ft_hz219 : hasZero prog 219 = true := by kernel_rfl
@[go_sem] theorem ft_by219 : bytesOf prog 219 = 2 := by kernel_rfl
@[go_sem] theorem ft_fl219 : flds prog 219 = some [5, 5] := by kernel_rfl
@[go_sem] theorem ft_zo219 : zeroOf prog 219 = some (.agg 219 [(.int .u8 0), (.int .u8 0)]) := by kernel_rfl
@[go_sem] theorem ft_zi219 : zeroIs prog 219 = true := by kernel_rfl
@[go_sem] theorem ft_zf219 : zeroFs prog 219 = [(.int .u8 0), (.int .u8 0)] := by kernel_rfl
@[go_sem] theorem ft_sz220 : szOf prog 220 = 2 := by kernel_rfl
@[go_sem] theorem ft_pr220 : prim prog 220 = false := by kernel_rfl
@[go_sem] theorem ft_sc220 : isStruct prog 220 = true := by kernel_rfl
@[go_sem] theorem ft_hz220 : hasZero prog 220 = true := by kernel_rfl
@[go_sem] theorem ft_by220 : bytesOf prog 220 = 2 := by kernel_rfl
@[go_sem] theorem ft_fl220 : flds prog 220 = some [5, 5] := by kernel_rfl
@[go_sem] theorem ft_zo220 : zeroOf prog 220 = some (.agg 220 [(.int .u8 0), (.int .u8 0)]) := by kernel_rfl
@[go_sem] theorem ft_zi220 : zeroIs prog 220 = true := by kernel_rfl
@[go_sem] theorem ft_zf220 : zeroFs prog 220 = [(.int .u8 0), (.int .u8 0)] := by kernel_rfl
@[go_sem] theorem ft_sz221 : szOf prog 221 = 32 := by kernel_rfl
@[go_sem] theorem ft_pr221 : prim prog 221 = false := by kernel_rfl
@[go_sem] theorem ft_hz221 : hasZero prog 221 = true := by kernel_rfl
@[go_sem] theorem ft_by221 : bytesOf prog 221 = 32 := by kernel_rfl
@[go_sem] theorem ft_ar221 : arrT prog 221 = some 220 := by kernel_rfl
@[go_sem] theorem ft_fl221 : flds prog 221 = some [220, 220, 220, 220, 220, 220, 220, 220, 220, 220, 220, 220, 220, 220, 220, 220] := by kernel_rfl
@[go_sem] theorem ft_zo221 : zeroOf prog 221 = some (.agg 221 [(.agg 220 [(.int .u8 0), (.int .u8 0)]), (.agg 220 [(.int .u8 0), (.int .u8 0)]), (.agg 220 [(.int .u8 0), (.int .u8 0)]), (.agg 220 [(.int .u8 0), (.int .u8 0)]), (.agg 220 [(.int .u8 0), (.int .u8 0)]), (.agg 220 [(.int .u8 0), (.int .u8 0)]), (.agg 220 [(.int .u8 0), (.int .u8 0)]), (.agg 220 [(.int .u8 0), (.int .u8 0)]), (.agg 220 [(.int .u8 0), (.int .u8 0)]), (.agg 220 [(.int .u8 0), (.int .u8 0)]), (.agg 220 [(.int .u8 0), (.int .u8 0)]), (.agg 220 [(.int .u8 0), (.int .u8 0)]), (.agg 220 [(.int .u8 0), (.int .u8 0)]), (.agg 220 [(.int .u8 0), (.int .u8 0)]), (.agg 220 [(.int .u8 0), (.int .u8 0)]), (.agg 220 [(.int .u8 0), (.int .u8 0)])]) := by kernel_rfl
@[go_sem] theorem ft_zi221 : zeroIs prog 221 = true := by kernel_rfl
@[go_sem] theorem ft_zf221 : zeroFs prog 221 = [(.agg 220 [(.int .u8 0), (.int .u8 0)]), (.agg 220 [(.int .u8 0), (.int .u8 0)]), (.agg 220 [(.int .u8 0), (.int .u8 0)]), (.agg 220 [(.int .u8 0), (.int .u8 0)]), (.agg 220 [(.int .u8 0), (.int .u8 0)]), (.agg 220 [(.int .u8 0), (.int .u8 0)]), (.agg 220 [(.int .u8 0), (.int .u8 0)]), (.agg 220 [(.int .u8 0), (.int .u8 0)]), (.agg 220 [(.int .u8 0), (.int .u8 0)]), (.agg 220 [(.int .u8 0), (.int .u8 0)]), (.agg 220 [(.int .u8 0), (.int .u8 0)]), (.agg 220 [(.int .u8 0), (.int .u8 0)]), (.agg 220 [(.int .u8 0), (.int .u8 0)]), (.agg 220 [(.int .u8 0), (.int .u8 0)]), (.agg 220 [(.int .u8 0), (.int .u8 0)]), (.agg 220 [(.int .u8 0), (.int .u8 0)])] := by kernel_rfl
@[go_sem] theorem ft_sz222 : szOf prog 222 = 1 := by kernel_rfl
@[go_sem] theorem ft_pr222 : prim prog 222 = true := by kernel_rfl
@[go_sem] theorem ft_hz222 : hasZero prog 222 = true := by kernel_rfl
@[go_sem] theorem ft_by222 : bytesOf prog 222 = 8 := by kernel_rfl
@[go_sem] theorem ft_sz223 : szOf prog 223 = 1 := by kernel_rfl
@[go_sem] theorem ft_pr223 : prim prog 223 = true := by kernel_rfl
@[go_sem] theorem ft_hz223 : hasZero prog 223 = true := by kernel_rfl
@[go_sem] theorem ft_by223 : bytesOf prog 223 = 8 := by kernel_rfl
@[go_sem] theorem ft_sz224 : szOf prog 224 = 4 := by kernel_rfl
@[go_sem] theorem ft_pr224 : prim prog 224 = false := by kernel_rfl
@[go_sem] theorem ft_sc224 : isStruct prog 224 = true := by kernel_rfl
@[go_sem] theorem ft_hz224 : hasZero prog 224 = true := by kernel_rfl
@[go_sem] theorem ft_by224 : bytesOf prog 224 = 40 := by kernel_rfl
@[go_sem] theorem ft_fl224 : flds prog 224 = some [17, 17, 17, 9] := by kernel_rfl
@[go_sem] theorem ft_zo224 : zeroOf prog 224 = some (.agg 224 [.nil, .nil, .nil, (.str [])]) := by kernel_rfl
@[go_sem] theorem ft_zi224 : zeroIs prog 224 = true := by kernel_rfl
@[go_sem] theorem ft_zf224 : zeroFs prog 224 = [.nil, .nil, .nil, (.str [])] := by kernel_rfl
@[go_sem] theorem ft_sz225 : szOf prog 225 = 4 := by kernel_rfl
@[go_sem] theorem ft_pr225 : prim prog 225 = false := by kernel_rfl
@[go_sem] theorem ft_sc225 : isStruct prog 225 = true := by kernel_rfl
@[go_sem] theorem ft_hz225 : hasZero prog 225 = true := by kernel_rfl
@[go_sem] theorem ft_by225 : bytesOf prog 225 = 40 := by kernel_rfl
@[go_sem] theorem ft_fl225 : flds prog 225 = some [17, 17, 17, 9] := by kernel_rfl
@[go_sem] theorem ft_zo225 : zeroOf prog 225 = some (.agg 225 [.nil, .nil, .nil, (.str [])]) := by kernel_rfl
@[go_sem] theorem ft_zi225 : zeroIs prog 225 = true := by kernel_rfl
@[go_sem] theorem ft_zf225 : zeroFs prog 225 = [.nil, .nil, .nil, (.str [])] := by kernel_rfl
@[go_sem] theorem ft_sz226 : szOf prog 226 = 0 := by kernel_rfl
@[go_sem] theorem ft_pr226 : prim prog 226 = false := by kernel_rfl
@[go_sem] theorem ft_hz226 : hasZero prog 226 = true := by kernel_rfl
@[go_sem] theorem ft_by226 : bytesOf prog 226 = 0 := by kernel_rfl
@[go_sem] theorem ft_ar226 : arrT prog 226 = some 16 := by kernel_rfl
@[go_sem] theorem ft_sz227 : szOf prog 227 = 0 := by kernel_rfl
@[go_sem] theorem ft_pr227 : prim prog 227 = false := by kernel_rfl
@[go_sem] theorem ft_sc227 : isStruct prog 227 = true := by kernel_rfl
@[go_sem] theorem ft_hz227 : hasZero prog 227 = true := by kernel_rfl
@[go_sem] theorem ft_by227 : bytesOf prog 227 = 0 := by kernel_rfl
@[go_sem] theorem ft_sz228 : szOf prog 228 = 0 := by kernel_rfl
@[go_sem] theorem ft_pr228 : prim prog 228 = false := by kernel_rfl
@[go_sem] theorem ft_sc228 : isStruct prog 228 = true := by kernel_rfl
@[go_sem] theorem ft_hz228 : hasZero prog 228 = true := by kernel_rfl
@[go_sem] theorem ft_by228 : bytesOf prog 228 = 0 := by kernel_rfl
@[go_sem] theorem ft_sz229 : szOf prog 229 = 1 := by kernel_rfl
@[go_sem] theorem ft_pr229 : prim prog 229 = true := by kernel_rfl
@[go_sem] theorem ft_it229 : intT prog 229 = some .u8 := by kernel_rfl
@[go_sem] theorem ft_hz229 : hasZero prog 229 = true := by kernel_rfl
@[go_sem] theorem ft_by229 : bytesOf prog 229 = 1 := by kernel_rfl
@[go_sem] theorem ft_zo229 : zeroOf prog 229 = some (.int .u8 0) := by kernel_rfl
@[go_sem] theorem ft_sz230 : szOf prog 230 = 1 := by kernel_rfl
@[go_sem] theorem ft_pr230 : prim prog 230 = true := by kernel_rfl
@[go_sem] theorem ft_it230 : intT prog 230 = some .u8 := by kernel_rfl
@[go_sem] theorem ft_hz230 : hasZero prog 230 = true := by kernel_rfl
@[go_sem] theorem ft_by230 : bytesOf prog 230 = 1 := by kernel_rfl
@[go_sem] theorem ft_zo230 : zeroOf prog 230 = some (.int .u8 0) := by kernel_rfl
@[go_sem] theorem ft_sz231 : szOf prog 231 = 1 := by kernel_rfl
@[go_sem] theorem ft_pr231 : prim prog 231 = true := by kernel_rfl
@[go_sem] theorem ft_hz231 : hasZero prog 231 = true := by kernel_rfl
@[go_sem] theorem ft_by231 : bytesOf prog 231 = 8 := by kernel_rfl
@[go_sem] theorem ft_sz232 : szOf prog 232 = 1 := by kernel_rfl
@[go_sem] theorem ft_pr232 : prim prog 232 = true := by kernel_rfl
@[go_sem] theorem ft_pt232 : isPtrT prog 232 = true := by kernel_rfl
@[go_sem] theorem ft_hz232 : hasZero prog 232 = true := by kernel_rfl
@[go_sem] theorem ft_by232 : bytesOf prog 232 = 8 := by kernel_rfl
@[go_sem] theorem ft_zo232 : zeroOf prog 232 = some .nil := by kernel_rfl
@[go_sem] theorem ft_sz233 : szOf prog 233 = 1 := by kernel_rfl
@[go_sem] theorem ft_pr233 : prim prog 233 = true := by kernel_rfl
@[go_sem] theorem ft_it233 : intT prog 233 = some .i32 := by kernel_rfl
@[go_sem] theorem ft_hz233 : hasZero prog 233 = true := by kernel_rfl
@[go_sem] theorem ft_by233 : bytesOf prog 233 = 4 := by kernel_rfl
@[go_sem] theorem ft_zo233 : zeroOf prog 233 = some (.int .i32 0) := by kernel_rfl
@[go_sem] theorem ft_sz234 : szOf prog 234 = 1 := by kernel_rfl
@[go_sem] theorem ft_pr234 : prim prog 234 = true := by kernel_rfl
@[go_sem] theorem ft_it234 : intT prog 234 = some .i32 := by kernel_rfl
@[go_sem] theorem ft_hz234 : hasZero prog 234 = true := by kernel_rfl
@[go_sem] theorem ft_by234 : bytesOf prog 234 = 4 := by kernel_rfl
@[go_sem] theorem ft_zo234 : zeroOf prog 234 = some (.int .i32 0) := by kernel_rfl
@[go_sem] theorem ft_sz235 : szOf prog 235 = 11 := by kernel_rfl
@[go_sem] theorem ft_pr235 : prim prog 235 = false := by kernel_rfl
@[go_sem] theorem ft_sc235 : isStruct prog 235 = true := by kernel_rfl
@[go_sem] theorem ft_hz235 : hasZero prog 235 = true := by kernel_rfl
@[go_sem] theorem ft_by235 : bytesOf prog 235 = 48 := by kernel_rfl
@[go_sem] theorem ft_fl235 : flds prog 235 = some [12, 12, 189, 229, 5, 5, 230, 231, 232, 233, 234] := by kernel_rfl
@[go_sem] theorem ft_sz236 : szOf prog 236 = 11 := by kernel_rfl
@[go_sem] theorem ft_pr236 : prim prog 236 = false := by kernel_rfl
@[go_sem] theorem ft_sc236 : isStruct prog 236 = true := by kernel_rfl
@[go_sem] theorem ft_hz236 : hasZero prog 236 = true := by kernel_rfl
@[go_sem] theorem ft_by236 : bytesOf prog 236 = 48 := by kernel_rfl
@[go_sem] theorem ft_fl236 : flds prog 236 = some [12, 12, 189, 229, 5, 5, 230, 231, 232, 233, 234] := by kernel_rfl
@[go_sem] theorem ft_sz237 : szOf prog 237 = 1 := by kernel_rfl
@[go_sem] theorem ft_pr237 : prim prog 237 = true := by kernel_rfl
@[go_sem] theorem ft_hz237 : hasZero prog 237 = true := by kernel_rfl
@[go_sem] theorem ft_by237 : bytesOf prog 237 = 8 := by kernel_rfl
@[go_sem] theorem ft_zo237 : zeroOf prog 237 = some .nil := by kernel_rfl
end Go.Proofs.Tryz
end
section
namespace Go.Av

def smallC (c : UInt8) : Bool := decide (97 ≤ c.toNat) && decide (c.toNat ≤ 122)
def digitC (c : UInt8) : Bool := decide (48 ≤ c.toNat) && decide (c.toNat ≤ 57)
def letterC (c : UInt8) : Bool := smallC c || (decide (65 ≤ c.toNat) && decide (c.toNat ≤ 90))

/-- The place of the first one; below 0: none. -/
def firstOf (c : UInt8) (s : List UInt8) : Int := match s.findIdx? (· == c) with | some i => i | none => -1

theorem firstOf_at {c : UInt8} {s : List UInt8} {i : Nat} (h : s[i]? = some c) (hn : ∀ (j : Nat) (d : UInt8), j < i → s[j]? = some d → ¬ d = c) : firstOf c s = i := by
  have : s.findIdx? (· == c) = some i := by
    obtain ⟨hi, he⟩ := List.getElem?_eq_some_iff.1 h
    refine List.findIdx?_eq_some_iff_getElem.2 ⟨hi, by simp [he], fun j hj => ?_⟩
    have := hn j _ hj (List.getElem?_eq_getElem (by omega))
    simpa using this
  rw [firstOf, this]

theorem firstOf_none {c : UInt8} {s : List UInt8} (hn : ∀ (j : Nat) (d : UInt8), s[j]? = some d → ¬ d = c) : firstOf c s = -1 := by
  have : s.findIdx? (· == c) = none := by
    refine List.findIdx?_eq_none_iff.2 fun x hx => ?_
    obtain ⟨j, hj⟩ := List.mem_iff_getElem?.1 hx
    simpa using hn j x hj
  rw [firstOf, this]

def lastTo (c : UInt8) (s : List UInt8) : Nat → Int
  | 0 => -1
  | i + 1 => if s[i]? = some c then i else lastTo c s i

/-- The place of the last one; below 0: none. -/
def lastOf (c : UInt8) (s : List UInt8) : Int := lastTo c s s.length

def rankC (c : UInt8) : Int := if c.toNat = 126 then -1 else if letterC c then 1 + c.toNat else 300 + c.toNat
def rankAt (s : List UInt8) (i : Nat) : Int := match s[i]? with | none => 0 | some c => if digitC c then 0 else rankC c
def sgn (a b : Int) : Int := if a < b then -1 else if a > b then 1 else 0
def skipD (s : List UInt8) : List UInt8 := s.dropWhile fun c => !digitC c
def skip0 (s : List UInt8) : List UInt8 := s.dropWhile fun c => c == 48
def runS (s : List UInt8) : Nat := (s.takeWhile digitC).length

theorem runS_at {s : List UInt8} {i : Nat} (hi : i ≤ s.length) (h1 : ∀ c ∈ s.take i, digitC c = true) (h2 : ∀ c, s[i]? = some c → digitC c = false) : runS s = i := by
  induction s generalizing i with
  | nil => simp at hi; subst hi; rfl
  | cons c r ih =>
    cases i with
    | zero =>
      have := h2 c rfl
      simp [runS, this]
    | succ i =>
      have hc := h1 c (by simp)
      have := ih (i := i) (by simpa using hi) (fun d hd => h1 d (by simp [hd])) (fun d hd => h2 d (by simpa using hd))
      simpa [runS, hc] using this

/-- A sign's rank at a text's beginning; the end, and a digit: 0. -/
def rk : List UInt8 → Int
  | [] => 0
  | c :: _ => if digitC c then 0 else rankC c

theorem rankAt_drop (s : List UInt8) (i : Nat) : rankAt s i = rk (s.drop i) := by
  unfold rankAt
  cases h : s[i]? with
  | none => rw [List.drop_eq_nil_of_le (List.getElem?_eq_none_iff.1 h)]; rfl
  | some c =>
    obtain ⟨hi, he⟩ := List.getElem?_eq_some_iff.1 h
    rw [List.drop_eq_getElem_cons hi, he]
    rfl

theorem rankC_ne (c : UInt8) : rankC c ≠ 0 := by unfold rankC; split <;> (try split) <;> omega

theorem rk_ne {s : List UInt8} (h : rk s ≠ 0) : ∃ c r, s = c :: r ∧ digitC c = false := by
  cases s with
  | nil => exact absurd rfl h
  | cons c r =>
    refine ⟨c, r, rfl, ?_⟩
    cases hd : digitC c with
    | false => rfl
    | true => simp [rk, hd] at h

/-- What is no digit at the beginning of two texts, held against each other. -/
def signsL : List UInt8 → List UInt8 → Int
  | [], b => if rk b = 0 then 0 else sgn 0 (rk b)
  | c :: a, b => if rk (c :: a) = 0 ∧ rk b = 0 then 0 else if rk (c :: a) = rk b then signsL a b.tail else sgn (rk (c :: a)) (rk b)

theorem signsL_zero {a b : List UInt8} (h : rk a = 0) (h' : rk b = 0) : signsL a b = 0 := by
  cases a <;> simp [signsL, h, h']

theorem signsL_step {a b : List UInt8} (h : rk a ≠ 0) (he : rk a = rk b) : signsL a b = signsL a.tail b.tail := by
  cases a with
  | nil => exact absurd rfl h
  | cons c a => rw [signsL, if_neg (fun e => h e.1), if_pos he]; rfl

theorem sgn_ne {a b : Int} (h : a ≠ b) : sgn a b ≠ 0 := by unfold sgn; split <;> (try split) <;> omega
theorem sgn_self (a : Int) : sgn a a = 0 := by simp [sgn]
theorem sgn_eq {a b : Int} (h : sgn a b = 0) : a = b := by
  cases Int.decEq a b with
  | isTrue h => exact h
  | isFalse hn => exact absurd h (sgn_ne hn)

theorem signsL_ne {a b : List UInt8} (he : rk a ≠ rk b) : signsL a b = sgn (rk a) (rk b) := by
  cases a with
  | nil =>
    have : ¬ rk b = 0 := fun e => he (by rw [e]; rfl)
    rw [signsL, if_neg this]; rfl
  | cons c a => rw [signsL, if_neg (fun e => he (by rw [e.1, e.2])), if_neg he]

/-- Two texts of the same length, sign by sign. -/
def lexC : List UInt8 → List UInt8 → Int
  | x :: a, y :: b => if x = y then lexC a b else sgn x.toNat y.toNat
  | _, _ => 0

def numS (s : List UInt8) : List UInt8 := skip0 (skipD s)

theorem dropWhile_le {p : UInt8 → Bool} (s : List UInt8) : (s.dropWhile p).length ≤ s.length := by
  induction s with
  | nil => simp
  | cons c r ih => simp only [List.dropWhile_cons]; split <;> simp <;> omega

theorem numS_le (s : List UInt8) : (numS s).length ≤ s.length := Nat.le_trans (dropWhile_le _) (dropWhile_le _)
theorem runS_le (s : List UInt8) : runS s ≤ s.length := (List.takeWhile_sublist _).length_le

theorem numS_lt {s : List UInt8} (h : s ≠ []) : ((numS s).drop (runS (numS s))).length < s.length := by
  cases s with
  | nil => exact absurd rfl h
  | cons c r =>
    cases hd : digitC c with
    | false =>
      have : numS (c :: r) = numS r := by simp [numS, skipD, hd]
      rw [this, List.length_drop]
      have := numS_le r
      simp; omega
    | true =>
      have e : skipD (c :: r) = c :: r := by simp [skipD, hd]
      by_cases h0 : c = 48
      · have : numS (c :: r) = skip0 r := by rw [numS, e]; simp [skip0, h0]
        rw [this, List.length_drop]
        have := dropWhile_le (p := fun c => c == 48) r
        simp only [skip0, List.length_cons]; omega
      · have : numS (c :: r) = c :: r := by rw [numS, e]; simp [skip0, h0]
        rw [this, List.length_drop]
        have : 0 < runS (c :: r) := by simp [runS, hd]
        simp only [List.length_cons]; omega

theorem num_le (s : List UInt8) : ((numS s).drop (runS (numS s))).length ≤ s.length := by
  rw [List.length_drop]; have := numS_le s; omega

/-- Two parts of versions held against each other. -/
def partV (a b : List UInt8) : Int :=
  if _h : a = [] ∧ b = [] then 0
  else if signsL a b ≠ 0 then signsL a b
  else if runS (numS a) ≠ runS (numS b) then sgn (runS (numS a)) (runS (numS b))
  else if lexC ((numS a).take (runS (numS a))) ((numS b).take (runS (numS b))) ≠ 0 then lexC ((numS a).take (runS (numS a))) ((numS b).take (runS (numS b)))
  else partV ((numS a).drop (runS (numS a))) ((numS b).drop (runS (numS b)))
termination_by a.length + b.length
decreasing_by
  have h1 := num_le a
  have h2 := num_le b
  by_cases ha : a = []
  · have hb : b ≠ [] := fun e => _h ⟨ha, e⟩
    have := numS_lt hb
    omega
  · have := numS_lt ha
    omega

theorem partV_lt {a b : List UInt8} (h : ¬ (a = [] ∧ b = [])) : ((numS a).drop (runS (numS a))).length + ((numS b).drop (runS (numS b))).length < a.length + b.length := by
  have h1 := num_le a
  have h2 := num_le b
  by_cases ha : a = []
  · have hb : b ≠ [] := fun e => h ⟨ha, e⟩
    have := numS_lt hb
    omega
  · have := numS_lt ha
    omega

theorem lexC_at {x y : List UInt8} {i : Nat} {c d : UInt8} (hc : x[i]? = some c) (hd : y[i]? = some d) (hp : x.take i = y.take i) (hne : c ≠ d) : lexC x y = sgn c.toNat d.toNat := by
  induction x generalizing y i with
  | nil => simp at hc
  | cons a x ih =>
    cases y with
    | nil => simp at hd
    | cons b y =>
      cases i with
      | zero =>
        simp at hc hd
        subst hc hd
        simp [lexC, hne]
      | succ i =>
        simp at hc hd hp
        rw [lexC, if_pos hp.1]
        exact ih hc hd hp.2

theorem lexC_self (x : List UInt8) : lexC x x = 0 := by
  induction x with
  | nil => rfl
  | cons a x ih => simp [lexC, ih]

theorem firstOf_cases (c : UInt8) (s : List UInt8) : (firstOf c s = -1 ∧ c ∉ s) ∨ ∃ i : Nat, firstOf c s = i ∧ s[i]? = some c ∧ i < s.length := by
  unfold firstOf
  cases h : s.findIdx? (· == c) with
  | none =>
    refine .inl ⟨rfl, fun hm => ?_⟩
    have := List.findIdx?_eq_none_iff.1 h c hm
    simp at this
  | some i =>
    obtain ⟨hi, he, _⟩ := List.findIdx?_eq_some_iff_getElem.1 h
    refine .inr ⟨i, rfl, ?_, hi⟩
    rw [List.getElem?_eq_getElem hi]
    simpa using he

theorem lastTo_cases (c : UInt8) (s : List UInt8) : ∀ n : Nat, n ≤ s.length → (lastTo c s n = -1 ∧ ∀ j, j < n → s[j]? ≠ some c) ∨ ∃ i : Nat, lastTo c s n = i ∧ s[i]? = some c ∧ i < n
  | 0, _ => .inl ⟨rfl, fun j h => absurd h (Nat.not_lt_zero j)⟩
  | n + 1, h => by
    unfold lastTo
    split
    · rename_i he; exact .inr ⟨n, rfl, he, Nat.lt_succ_self n⟩
    · rename_i he
      rcases lastTo_cases c s n (by omega) with ⟨h1, h2⟩ | ⟨i, h1, h2, h3⟩
      · refine .inl ⟨h1, fun j hj => ?_⟩
        rcases Nat.lt_succ_iff_lt_or_eq.1 hj with hj | rfl
        · exact h2 j hj
        · exact he
      · exact .inr ⟨i, h1, h2, by omega⟩

theorem lastOf_cases (c : UInt8) (s : List UInt8) : (lastOf c s = -1 ∧ c ∉ s) ∨ ∃ i : Nat, lastOf c s = i ∧ s[i]? = some c ∧ i < s.length := by
  rcases lastTo_cases c s s.length (Nat.le_refl _) with ⟨h1, h2⟩ | h
  · refine .inl ⟨h1, fun hm => ?_⟩
    obtain ⟨j, hj⟩ := List.mem_iff_getElem?.1 hm
    exact h2 j (List.getElem?_eq_some_iff.1 hj).1 hj
  · exact .inr h

def revCh (c : UInt8) : Bool := letterC c || digitC c || (c.toNat : Int) == 43 || (c.toNat : Int) == 46 || (c.toNat : Int) == 126
def upCh (c : UInt8) : Bool := letterC c || digitC c || (c.toNat : Int) == 43 || (c.toNat : Int) == 46 || (c.toNat : Int) == 126 || (c.toNat : Int) == 45 || (c.toNat : Int) == 58
theorem revCh_not (c : UInt8) : (!letterC c && !digitC c && (c.toNat : Int) != 43 && (c.toNat : Int) != 46 && (c.toNat : Int) != 126) = !revCh c := by simp [revCh, bne, Bool.and_assoc]
theorem upCh_not (c : UInt8) : (!letterC c && !digitC c && (c.toNat : Int) != 43 && (c.toNat : Int) != 46 && (c.toNat : Int) != 126 && (c.toNat : Int) != 45 && (c.toNat : Int) != 58) = !upCh c := by simp [upCh, bne, Bool.and_assoc]

/-- A version's epoch, and the rest. -/
def epochP (s : List UInt8) : Option (List UInt8 × List UInt8) :=
  if 0 ≤ firstOf 58 s then
    (let e := s.take (firstOf 58 s).toNat
     if 1 ≤ e.length ∧ e.length ≤ 9 ∧ e.all digitC = true then some (e, s.drop ((firstOf 58 s).toNat + 1)) else none)
  else some ([48], s)

/-- What is ahead of the last hyphen, and what is behind. -/
def revP (t : List UInt8) : Option (List UInt8 × List UInt8) :=
  if 0 ≤ lastOf 45 t then (if t.drop ((lastOf 45 t).toNat + 1) = [] then none else some (t.take (lastOf 45 t).toNat, t.drop ((lastOf 45 t).toNat + 1)))
  else some (t, [])

def startsD : List UInt8 → Bool
  | [] => false
  | c :: _ => digitC c

/-- A version's parts. -/
def verP (s : List UInt8) : Option (List UInt8 × List UInt8 × List UInt8) :=
  if s.length = 0 ∨ 48 < s.length then none else
  match epochP s with
  | none => none
  | some (e, t) => match revP t with
    | none => none
    | some (u, r) => if r.all revCh && u.all upCh && startsD u then some (e, u, r) else none

def isVer (s : List UInt8) : Bool := (verP s).isSome

/-- Two versions held against each other; 0 where one is none. -/
def cmpVer (a b : List UInt8) : Int :=
  match verP a, verP b with
  | some (e, u, r), some (f, v, s) => if partV e f ≠ 0 then partV e f else if partV u v ≠ 0 then partV u v else partV r s
  | _, _ => 0

def sameVer (a b : List UInt8) : Bool := isVer a && isVer b && cmpVer a b == 0

def holdsV (rel : Int) (a b : List UInt8) : Bool :=
  if rel = 0 then isVer a
  else if isVer a && isVer b then
    (if rel = 1 then decide (cmpVer a b < 0) else if rel = 2 then decide (cmpVer a b ≤ 0) else if rel = 3 then cmpVer a b == 0
     else if rel = 4 then decide (0 ≤ cmpVer a b) else if rel = 5 then decide (0 < cmpVer a b) else false)
  else false

end Go.Av
end
section
namespace Go.Proofs.Tryz
open Go Go.Av
set_option maxRecDepth 10000
set_option linter.unusedSimpArgs false
set_option linter.unusedVariables false
variable {W0 : World}

theorem r4_small (c : UInt8) : PureFn prog W0 59 [.int .u8 c.toNat] (.bool (smallC c)) := by
  refine fn_pure [2] [] func59 rfl rfl ntmps59 rfl rfl (.bool _) fun _ σ => ?_
  simp only [go_sem, simprocAttr, ↓reduceIte]
  exact weak_bool (by rw [smallC]; congr 1 <;> exact decide_eq_decide.2 (by omega))

theorem r4_digit (c : UInt8) : PureFn prog W0 60 [.int .u8 c.toNat] (.bool (digitC c)) := by
  refine fn_pure [2] [] func60 rfl rfl ntmps60 rfl rfl (.bool _) fun _ σ => ?_
  simp only [go_sem, simprocAttr, ↓reduceIte]
  exact weak_bool (by rw [digitC]; congr 1 <;> exact decide_eq_decide.2 (by omega))

theorem r4_letter (c : UInt8) : PureFn prog W0 87 [.int .u8 c.toNat] (.bool (letterC c)) := by
  refine fn_pure [2] [] func87 rfl rfl ntmps87 rfl rfl (.bool _) fun _ σ => ?_
  simp only [go_sem, simprocAttr, ↓reduceIte]
  refine CallA.fn (r4_small c) ?_
  simp only [go_sem, simprocAttr, ↓reduceIte]
  refine weak_bool ?_
  unfold letterC
  congr 2 <;> exact decide_eq_decide.2 (by omega)

theorem r4_sign (a b : Int) : PureFn prog W0 119 [.int .i64 a, .int .i64 b] (.int .i64 (sgn a b)) := by
  refine fn_pure [4] [] func119 rfl rfl ntmps119 rfl rfl (.int _ _) fun _ σ => ?_
  simp only [go_sem, simprocAttr, ↓reduceIte]
  refine ⟨fun h => weak_int (by simp [sgn, h]), fun h => ⟨fun h' => weak_int (by simp [sgn, h, h']), fun h' => weak_int (by simp [sgn, h, h'])⟩⟩

theorem r4_first (s : List UInt8) (c : UInt8) : PureFn prog W0 85 [.str s, .int .u8 c.toNat] (.int .i64 (firstOf c s)) := by
  refine fn_pure [4] [] func85 rfl rfl ntmps85 rfl rfl (.int _ _) fun hs σ => ?_
  have hsl : s.length ≤ maxLen := small_str (hs _ (by simp))
  simp only [go_sem, simprocAttr, ↓reduceIte]
  refine VC.upto [] s.length (fun i A => A.env 0 = .str s ∧ A.env 1 = .int .u8 c.toNat ∧ A.env 7 = .int .i64 s.length ∧ A.env 8 = .int .i64 i ∧ A.st = σ ∧ ∀ j d, j < i → s[j]? = some d → ¬ d = c) 0 (Nat.zero_le _) (.here ?_) fun i A hi ⟨h0, h1, h7, h8, hst, hI⟩ => ?_
  · simp only [go_sem, simprocAttr, ↓reduceIte]
  simp only [go_sem, simprocAttr, ↓reduceIte, h0, h1, h7, h8, hst]
  refine ⟨fun hc => ⟨hc, fun h => ?_, fun h => ⟨hc, .here ?_⟩⟩, fun hc => ?_⟩
  · obtain ⟨x, hx⟩ := get_some hc
    simp only [hx, Option.getD_some] at h
    subst h
    exact weak_int (firstOf_at hx hI).symm
  · simp only [go_sem, simprocAttr, ↓reduceIte, h0, h1, h7, h8, hst]
    refine ⟨int_succ hc hsl, fun j d hj hd => ?_⟩
    rcases Nat.lt_succ_iff_lt_or_eq.1 hj with hj | rfl
    · exact hI j d hj hd
    · simpa [hd] using h
  · exact weak_int (firstOf_none fun j d hj => hI j d (by have := (List.getElem?_eq_some_iff.1 hj).1; omega) hj).symm

theorem r4_last (s : List UInt8) (c : UInt8) : PureFn prog W0 86 [.str s, .int .u8 c.toNat] (.int .i64 (lastOf c s)) := by
  refine fn_pure [4] [] func86 rfl rfl ntmps86 rfl rfl (.int _ _) fun hs σ => ?_
  have hsl : s.length ≤ 9223372036854775807 := small_str (hs _ (by simp))
  simp only [go_sem, simprocAttr, ↓reduceIte]
  refine VC.falls [] (fun k A => A.env 0 = .str s ∧ A.env 1 = .int .u8 c.toNat ∧ A.env 5 = .int .i64 ((k : Int) - 1) ∧ A.st = σ ∧ k ≤ s.length ∧ lastOf c s = lastTo c s k) s.length (.here ?_) fun k A ⟨h0, h1, h5, hst, hk, hI⟩ => ?_
  · simp only [go_sem, simprocAttr, ↓reduceIte]
    simp [lastOf]
    exact wrap_in (by omega)
  simp only [go_sem, simprocAttr, ↓reduceIte, h0, h1, h5, hst]
  cases k with
  | zero =>
    refine ⟨fun h => by simp at h, fun _ => weak_int hI.symm⟩
  | succ i =>
    have e : ((i + 1 : Nat) : Int) - 1 = (i : Int) := by omega
    simp only [e]
    obtain ⟨x, hx⟩ := get_some (show i < s.length by omega)
    simp only [go_sem, simprocAttr, ↓reduceIte, hx]
    have hib : (i : Int) - 1 ≤ 9223372036854775807 := by omega
    refine ⟨by omega, fun h => weak_int ?_, fun h => .here i (by omega) ?_⟩
    · rw [hI, lastTo, hx, h]; simp
    · simp only [go_sem, simprocAttr, ↓reduceIte, h0, h1, h5, hst]
      refine ⟨?_, by omega, ?_⟩
      · rw [wrap_in ⟨by omega, hib⟩]
      · rw [hI, lastTo, hx, if_neg (by simpa using h)]

theorem r4_rank (s : List UInt8) (i : Nat) : PureFn prog W0 118 [.str s, .int .i64 i] (.int .i64 (rankAt s i)) := by
  refine fn_pure [4] [] func118 rfl rfl ntmps118 rfl rfl (.int _ _) fun hs σ => ?_
  simp only [go_sem, simprocAttr, ↓reduceIte]
  refine CallP.fnG (fun _ => r4_digit _) ?_
  simp only [go_sem, simprocAttr, ↓reduceIte]
  refine ⟨fun h => weak_int ?_, fun h => ?_⟩
  · cases hi : s[i]? with
    | none => simp [rankAt, hi]
    | some c =>
      have := (List.getElem?_eq_some_iff.1 hi).1
      simp only [hi, Option.getD_some, Bool.or_eq_true, decide_eq_true_eq] at h
      simp [rankAt, hi, h.resolve_left (by omega)]
  simp only [Bool.or_eq_false_iff, decide_eq_false_iff_not, Nat.not_le] at h
  obtain ⟨c, hc⟩ := get_some h.1
  simp only [hc, Option.getD_some] at h ⊢
  refine ⟨by omega, fun h1 => weak_int ?_, fun h1 => ?_⟩
  · have : c.toNat = 126 := by omega
    simp [rankAt, hc, h.2, rankC, this]
  refine CallA.fn (r4_letter c) ?_
  have h126 : ¬ c.toNat = 126 := by omega
  have hc8 := c.toNat_lt
  simp only [go_sem, simprocAttr, ↓reduceIte]
  refine ⟨fun h2 => weak_int ?_, fun h2 => weak_int ?_⟩
  · rw [wrap_in (by omega)]
    simp [rankAt, hc, h.2, rankC, h126, h2]
  · rw [wrap_in (by omega)]
    simp [rankAt, hc, h.2, rankC, h126, h2]

theorem r4_run (s : List UInt8) : PureFn prog W0 121 [.str s] (.int .i64 (runS s)) := by
  refine fn_pure [2] [] func121 rfl rfl ntmps121 rfl rfl (.int _ _) fun hs σ => ?_
  have hsl : s.length ≤ maxLen := small_str (hs _ (by simp))
  simp only [go_sem, simprocAttr, ↓reduceIte]
  refine VC.upto [] s.length (fun i A => A.env 0 = .str s ∧ A.env 3 = .int .i64 i ∧ A.st = σ ∧ ∀ c ∈ s.take i, digitC c = true) 0 (Nat.zero_le _) (.here ?_) fun i A hi ⟨h0, h3, hst, hI⟩ => ?_
  · simp only [go_sem, simprocAttr, ↓reduceIte]
    all_goals simp
  simp only [go_sem, simprocAttr, ↓reduceIte, h0, h3, hst]
  refine CallP.fnG (fun _ => r4_digit _) ?_
  simp only [go_sem, simprocAttr, ↓reduceIte, h0, h3, hst]
  rw [at_and, at_and_f]
  refine ⟨fun ⟨c, hc, hd⟩ => ?_, fun h => weak_int (by rw [runS_at hi hI h])⟩
  have hlt := (List.getElem?_eq_some_iff.1 hc).1
  refine ⟨hlt, .here ?_⟩
  simp only [go_sem, simprocAttr, ↓reduceIte, h0, h3, hst]
  refine ⟨int_succ hlt hsl, fun d hd' => ?_⟩
  rw [take_succ_get hc] at hd'
  rcases List.mem_append.1 hd' with h | h
  · exact hI d h
  · simp at h; rw [h]; exact hd

theorem r4_skip (s : List UInt8) : PureFn prog W0 120 [.str s] (.str (skip0 (skipD s))) := by
  refine fn_pure [2] [] func120 rfl rfl ntmps120 rfl rfl (.str _) fun hs σ => ?_
  simp only [go_sem, simprocAttr, ↓reduceIte]
  refine LoopVC.cut (fun A => A.env 0 = .str (skipD s) ∧ A.st = σ) (fun A ⟨h0, hst⟩ => ?_) ?_
  · simp only [go_sem, simprocAttr, ↓reduceIte]
    refine VC.falls [] (fun k A => ∃ t, A.env 0 = .str t ∧ A.st = σ ∧ k = t.length ∧ skip0 t = skip0 (skipD s)) (skipD s).length (.here ⟨skipD s, h0, hst, rfl, rfl⟩) fun k A ⟨t, h0, hst, hk, hI⟩ => ?_
    cases t with
    | nil =>
      simp only [go_sem, simprocAttr, ↓reduceIte, h0, hst]
      exact weak_str hI
    | cons c r =>
      simp only [go_sem, simprocAttr, ↓reduceIte, h0, hst]
      refine ⟨fun h => .here r.length (by rw [hk]; exact Nat.lt_succ_self _) ⟨r, ?_⟩, fun h => weak_str ?_⟩
      · simp only [go_sem, simprocAttr, ↓reduceIte, h0, hst]
        have : c = 48 := UInt8.toNat_inj.1 (by simp; omega)
        rw [← hI, this]
        simp [skip0]
      · rw [← hI]
        simp [skip0, show ¬ c = 48 from fun e => h (by subst e; rfl)]
  refine VC.falls [] (fun k A => ∃ t, A.env 0 = .str t ∧ A.st = σ ∧ k = t.length ∧ skipD t = skipD s) s.length (.here ⟨s, ?_⟩) fun k A ⟨t, h0, hst, hk, hI⟩ => ?_
  · simp only [go_sem, simprocAttr, ↓reduceIte]
  cases t with
  | nil =>
    simp only [go_sem, Nat.reduceEqDiff, Nat.reduceLT, ↓reduceIte, Int.reduceToNat, Int.reduceLE, Int.reduceLT, Int.reduceEq, Int.reduceBEq, Int.reduceBNe, Int.reduceNeg, Int.reduceAdd, Int.reduceSub, Nat.reduceBEq, Nat.reduceAdd, Nat.reduceMul, Nat.reduceSub, Nat.reduceLeDiff, h0, hst]
    refine CallP.fnG (fun _ => r4_digit _) ?_
    simp only [go_sem, simprocAttr, ↓reduceIte, h0, hst]
    rw [← hI]; rfl
  | cons c r =>
    simp only [go_sem, simprocAttr, ↓reduceIte, h0, hst]
    refine CallP.fnG (fun _ => r4_digit _) ?_
    simp only [go_sem, simprocAttr, ↓reduceIte, h0, hst]
    refine ⟨fun h => .here r.length (by rw [hk]; exact Nat.lt_succ_self _) ⟨r, ?_⟩, fun h => ?_⟩
    · simp only [go_sem, simprocAttr, ↓reduceIte, h0, hst]
      rw [← hI]
      simp [skipD, h]
    · rw [← hI]
      simp [skipD, h]
end Go.Proofs.Tryz
end
section
namespace Go.Proofs.Tryz
open Go Go.Av
set_option maxRecDepth 10000
set_option linter.unusedSimpArgs false
set_option linter.unusedVariables false
variable {W0 : World}

theorem beq_nil (s : List UInt8) : (!(s == [])) = true ↔ s ≠ [] := by cases s <;> simp

theorem r4_part (a b : List UInt8) : PureFn prog W0 83 [.str a, .str b] (.int .i64 (partV a b)) := by
  refine fn_pure [4] [] func83 rfl rfl ntmps83 rfl rfl (.int _ _) fun hs σ => ?_
  have hal : a.length ≤ maxLen := small_str (hs (.str a) (by simp))
  have hbl : b.length ≤ maxLen := small_str (hs (.str b) (by simp))
  simp only [go_sem, simprocAttr, ↓reduceIte]
  refine VC.falls [] (fun k A => ∃ x y, A.env 0 = .str x ∧ A.env 1 = .str y ∧ A.st = σ ∧ k = x.length + y.length ∧ partV x y = partV a b ∧ x.length ≤ maxLen ∧ y.length ≤ maxLen) (a.length + b.length) (.here ⟨a, b, ?_⟩) fun k A ⟨x, y, h0, h1, hst, hk, hI, hx, hy⟩ => ?_
  · simp only [go_sem, simprocAttr, ↓reduceIte]
    simp [hal, hbl]
  simp only [go_sem, simprocAttr, ↓reduceIte, h0, h1, hst]
  refine ⟨fun hc => ?_, fun hc => ?_⟩
  case refine_2 =>
    have : x = [] ∧ y = [] := by cases x <;> cases y <;> simp at hc ⊢
    refine weak_int ?_
    rw [← hI, partV, dif_pos this]
  have hne : ¬ (x = [] ∧ y = []) := fun ⟨e, e'⟩ => by subst e e'; simp at hc
  refine LoopVC.cut (fun A => A.env 0 = .str x ∧ A.env 1 = .str y ∧ A.st = σ ∧ signsL x y = 0) (fun A ⟨h0, h1, hst, hs0⟩ => ?_) ?_
  case refine_2 =>
    refine VC.upto [] x.length (fun i A => A.env 0 = .str x ∧ A.env 1 = .str y ∧ A.env 5 = .int .i64 i ∧ A.st = σ ∧ signsL (x.drop i) (y.drop i) = signsL x y) 0 (Nat.zero_le _) (.here ?_) fun i A hi ⟨h0, h1, h5, hst, hI'⟩ => ?_
    · simp only [go_sem, simprocAttr, ↓reduceIte, h0, h1, hst]
      all_goals simp
    simp only [go_sem, simprocAttr, ↓reduceIte, h0, h1, h5, hst]
    refine CallA.fn (r4_rank x i) ?_
    simp only [go_sem, simprocAttr, ↓reduceIte, h0, h1, h5, hst]
    refine CallP.fnG (fun _ => r4_rank y i) ?_
    simp only [go_sem, simprocAttr, ↓reduceIte, h0, h1, h5, hst]
    refine ⟨fun hr => ?_, fun hr => ?_⟩
    case refine_2 =>
      simp only [Bool.or_eq_false_iff, bne_eq_false_iff_eq] at hr
      rw [rankAt_drop, rankAt_drop] at hr
      rw [← hI', signsL_zero hr.1 hr.2]
    refine CallA.fn (r4_rank x i) ?_
    simp only [go_sem, simprocAttr, ↓reduceIte, h0, h1, h5, hst]
    refine CallA.fn (r4_rank y i) ?_
    simp only [go_sem, simprocAttr, ↓reduceIte, h0, h1, h5, hst]
    refine CallA.fn (r4_sign _ _) ?_
    simp only [go_sem, simprocAttr, ↓reduceIte, h0, h1, h5, hst]
    rw [rankAt_drop, rankAt_drop] at hr ⊢
    refine ⟨fun hne' => weak_int ?_, fun he => ?_⟩
    · have hr1 : rk (x.drop i) ≠ rk (y.drop i) := fun e => hne' (by rw [e, sgn_self])
      have e : signsL x y = sgn (rk (x.drop i)) (rk (y.drop i)) := by rw [← hI', signsL_ne hr1]
      rw [← hI, partV, dif_neg hne, if_pos (by rw [e]; exact hne'), e]
    · have e := sgn_eq he
      have hr1 : rk (x.drop i) ≠ 0 := fun h0 => by rw [← e, h0] at hr; simp at hr
      obtain ⟨c, r, hcr, _⟩ := rk_ne hr1
      have hlt : i < x.length := by
        rcases Nat.lt_or_ge i x.length with h | h
        · exact h
        · rw [List.drop_eq_nil_of_le h] at hcr; cases hcr
      refine ⟨hlt, .here ?_⟩
      simp only [go_sem, simprocAttr, ↓reduceIte, h0, h1, h5, hst]
      refine ⟨int_succ hlt hx, ?_⟩
      rw [← hI', signsL_step hr1 e, List.tail_drop, List.tail_drop]
  simp only [go_sem, simprocAttr, ↓reduceIte, h0, h1, hst]
  refine CallA.fn (r4_skip x) ?_
  simp only [go_sem, simprocAttr, ↓reduceIte, h0, h1, hst]
  refine CallA.fn (r4_skip y) ?_
  simp only [go_sem, simprocAttr, ↓reduceIte, h0, h1, hst]
  refine CallA.fn (r4_run _) ?_
  simp only [go_sem, simprocAttr, ↓reduceIte, h0, h1, hst]
  refine CallA.fn (r4_run _) ?_
  simp only [go_sem, simprocAttr, ↓reduceIte, h0, h1, hst]
  rw [show skip0 (skipD x) = numS x from rfl, show skip0 (skipD y) = numS y from rfl]
  have hnx := numS_le x
  have hny := numS_le y
  refine ⟨fun hm => ?_, fun hm => ?_⟩
  · refine CallA.fn (r4_sign _ _) ?_
    simp only [go_sem, simprocAttr, ↓reduceIte, h0, h1, hst]
    refine weak_int ?_
    rw [← hI, partV, dif_neg hne, if_neg (by simp [hs0]), if_pos hm]
  have hm1 := runS_le (numS x)
  have hm2 := runS_le (numS y)
  refine LoopVC.cut (fun A => A.env 0 = .str (numS x) ∧ A.env 1 = .str (numS y) ∧ A.env 7 = .int .i64 (runS (numS x)) ∧ A.env 8 = .int .i64 (runS (numS y)) ∧ A.st = σ ∧ lexC ((numS x).take (runS (numS x))) ((numS y).take (runS (numS y))) = 0) (fun A ⟨h0, h1, h7, h8, hst, hl0⟩ => ?_) ?_
  · simp only [go_sem, simprocAttr, ↓reduceIte, h0, h1, h7, h8, hst]
    refine ⟨.of (by kernel_rfl), hm1, hm2, .here (((numS x).drop (runS (numS x))).length + ((numS y).drop (runS (numS y))).length) (by rw [hk]; exact partV_lt hne) ⟨(numS x).drop (runS (numS x)), (numS y).drop (runS (numS y)), ?_⟩⟩
    simp only [go_sem, simprocAttr, ↓reduceIte, h0, h1, h7, h8, hst]
    refine ⟨?_, by rw [List.length_drop]; omega, by rw [List.length_drop]; omega⟩
    rw [← hI, partV.eq_def x y, dif_neg hne, if_neg (by simp [hs0]), if_neg (by simp [hm]), if_neg (by simp [hl0])]
  refine VC.upto [] (runS (numS x)) (fun i A => A.env 0 = .str (numS x) ∧ A.env 1 = .str (numS y) ∧ A.env 7 = .int .i64 (runS (numS x)) ∧ A.env 8 = .int .i64 (runS (numS y)) ∧ A.env 53 = .int .i64 (runS (numS x)) ∧ A.env 54 = .int .i64 i ∧ A.st = σ ∧ (numS x).take i = (numS y).take i) 0 (Nat.zero_le _) (.here ?_) fun i A hi ⟨h0, h1, h7, h8, h53, h54, hst, hp⟩ => ?_
  · simp only [go_sem, simprocAttr, ↓reduceIte, h0, h1, hst]
    all_goals simp
  simp only [go_sem, simprocAttr, ↓reduceIte, h0, h1, h7, h8, h53, h54, hst]
  refine ⟨fun hlt => ?_, fun hge => ?_⟩
  · obtain ⟨c, hc⟩ := get_some (show i < (numS x).length by omega)
    obtain ⟨d, hd⟩ := get_some (show i < (numS y).length by omega)
    have hc8 := c.toNat_lt
    have hd8 := d.toNat_lt
    refine ⟨.of (by kernel_rfl), by omega, by omega, ?_⟩
    simp only [hc, hd, Option.getD_some]
    refine CallP.fn (r4_sign _ _) ?_
    simp only [go_sem, simprocAttr, ↓reduceIte, h0, h1, h7, h8, h53, h54, hst]
    refine ⟨fun hne' => weak_int ?_, fun he => ⟨hlt, .here ?_⟩⟩
    · have hcd : c ≠ d := fun e => hne' (by rw [e, sgn_self])
      have hl : lexC ((numS x).take (runS (numS x))) ((numS y).take (runS (numS y))) = sgn c.toNat d.toNat := by
        refine lexC_at (i := i) ?_ ?_ ?_ hcd
        · rw [List.getElem?_take, if_pos hlt]; exact hc
        · rw [List.getElem?_take, if_pos (by omega)]; exact hd
        · rw [List.take_take, List.take_take, Nat.min_eq_left (by omega), Nat.min_eq_left (by omega)]; exact hp
      rw [← hI, partV.eq_def x y, dif_neg hne, if_neg (by simp [hs0]), if_neg (by simp [hm]), if_pos (by rw [hl]; exact hne'), hl]
    · simp only [go_sem, simprocAttr, ↓reduceIte, h0, h1, h7, h8, h53, h54, hst]
      refine ⟨int_succ hlt (Nat.le_trans hm1 (Nat.le_trans hnx hx)), ?_⟩
      have := sgn_eq he
      rw [take_succ_get hc, take_succ_get hd, hp, show c = d from UInt8.toNat_inj.1 (by omega)]
  · have : i = runS (numS x) := by omega
    rw [← hm, ← this, hp, lexC_self]
def verAV : Option (List UInt8 × List UInt8 × List UInt8) → AV
  | none => .tup [.str [], .str [], .str [], .bool false]
  | some (e, u, r) => .tup [.str e, .str u, .str r, .bool true]

theorem verAV_ids (v : Option (List UInt8 × List UInt8 × List UInt8)) : IdsLt 0 (verAV v) := by
  cases v <;> refine .tup fun x hx => ?_ <;> simp at hx
  · rcases hx with rfl | rfl
    · exact .str _
    · exact .bool _
  · rcases hx with rfl | rfl | rfl | rfl
    · exact .str _
    · exact .str _
    · exact .str _
    · exact .bool _

theorem all_take {s : List UInt8} {f : UInt8 → Bool} {i : Nat} {c : UInt8} (h : (s.take i).all f = true) (hc : s[i]? = some c) (hf : f c = true) : (s.take (i + 1)).all f = true := by
  rw [take_succ_get hc, List.all_append, h]; simp [hf]

theorem r4_version (s : List UInt8) : PureFn prog W0 61 [.str s] (verAV (verP s)) := by
  refine fn_pure [2, 3, 4, 5] [] func61 rfl rfl ntmps61 rfl rfl (verAV_ids _) fun hs σ => ?_
  have hsl : s.length ≤ maxLen := small_str (hs (.str s) (by simp))
  have none_end : verP s = none → Weak (AV.tup [.str [], .str [], .str [], .bool false]) (verAV (verP s)) := fun e => by rw [e]; exact .refl _
  simp only [go_sem, simprocAttr, ↓reduceIte]
  simp only [Bool.or_eq_true, Bool.or_eq_false_iff, decide_eq_true_eq, decide_eq_false_iff_not, beq_iff_eq, beq_eq_false_iff_ne]
  refine ⟨fun h => none_end (by rw [verP, if_pos (by omega)]), fun h => ?_⟩
  have hlen : ¬ (s.length = 0 ∨ 48 < s.length) := by omega
  refine CallA.fn (r4_first s 58) ?_
  simp only [go_sem, simprocAttr, ↓reduceIte]
  refine JoinVC.cut (fun A => ∃ e t, epochP s = some (e, t) ∧ A.env 0 = .str t ∧ A.env 6 = .str e ∧ A.env 7 = .str [] ∧ A.st = σ ∧ t.length ≤ s.length) (fun A ⟨e, t, hep, h0, h6, h7, hst, htl⟩ => ?_) (fun hf => ?_) (fun hf => ?_)
  case refine_3 =>
    simp only [go_sem, simprocAttr, ↓reduceIte]
    have hf' : ¬ (0 ≤ firstOf 58 s) := by simpa using hf
    refine ⟨[48], s, ?_⟩
    simp [epochP, hf']
  case refine_2 =>
    obtain ⟨i, hi, hgi, hlt⟩ := (firstOf_cases 58 s).resolve_left (fun e => by rw [e.1] at hf; simp at hf)
    rw [hi]
    have hw : IntKind.i64.wrap ((i : Int) + 1) = ((i + 1 : Nat) : Int) := wrap_succ hlt hsl
    have hep : epochP s = if 1 ≤ (s.take i).length ∧ (s.take i).length ≤ 9 ∧ (s.take i).all digitC = true then some (s.take i, s.drop (i + 1)) else none := by
      rw [epochP, hi, if_pos (by omega)]; rfl
    have bad : ¬ (1 ≤ (s.take i).length ∧ (s.take i).length ≤ 9 ∧ (s.take i).all digitC = true) → verP s = none := fun hb => by
      rw [verP, if_neg hlen, hep, if_neg hb]
    simp only [go_sem, simprocAttr, ↓reduceIte, hw]
    refine ⟨.of (by kernel_rfl), by omega, by omega, ?_⟩
    simp only [Bool.or_eq_true, Bool.or_eq_false_iff, decide_eq_true_eq, decide_eq_false_iff_not]
    refine ⟨fun hb => none_end (bad (by omega)), fun hb => ?_⟩
    have htk : (s.take i).length = i := by rw [List.length_take]; omega
    refine VC.upto [] i (fun j A => A.env 0 = .str (s.drop (i + 1)) ∧ A.env 6 = .str (s.take i) ∧ A.env 7 = .str [] ∧ A.env 43 = .int .i64 i ∧ A.env 44 = .int .i64 j ∧ A.st = σ ∧ ((s.take i).take j).all digitC = true) 0 (Nat.zero_le _) (.here ?_) fun j A hj ⟨h0, h6, h7, h43, h44, hst, hI⟩ => ?_
    · simp only [go_sem, simprocAttr, ↓reduceIte]
      all_goals simp
      omega
    simp only [go_sem, simprocAttr, ↓reduceIte, h0, h6, h7, h43, h44, hst]
    refine ⟨fun hlt' => ⟨by omega, ?_⟩, fun hge => ⟨s.take i, s.drop (i + 1), ?_⟩⟩
    · obtain ⟨c, hc⟩ := get_some (show j < (s.take i).length by omega)
      simp only [hc, Option.getD_some]
      refine CallA.fn (r4_digit c) ?_
      simp only [go_sem, simprocAttr, ↓reduceIte, h0, h6, h7, h43, h44, hst]
      refine ⟨fun hd => none_end (bad fun hb => ?_), fun hd => ⟨hlt', .here ?_⟩⟩
      · have := List.all_eq_true.1 hb.2.2 c (List.mem_of_getElem? hc)
        rw [hd] at this; cases this
      · simp only [go_sem, simprocAttr, ↓reduceIte, h0, h6, h7, h43, h44, hst]
        exact ⟨int_succ hlt' (by omega), all_take hI hc hd⟩
    · have : j = i := by omega
      rw [this, List.take_take, Nat.min_self] at hI
      simp only [go_sem, simprocAttr, ↓reduceIte, h0, h6, h7, hst]
      rw [hep, if_pos ⟨by omega, by omega, hI⟩]
      simp
  simp only [go_sem, simprocAttr, ↓reduceIte, h0, h6, h7, hst]
  refine CallA.fn (r4_last t 45) ?_
  simp only [go_sem, simprocAttr, ↓reduceIte, h0, h6, h7, hst]
  refine JoinVC.cut (fun A => ∃ u r, revP t = some (u, r) ∧ A.env 0 = .str u ∧ A.env 6 = .str e ∧ A.env 7 = .str r ∧ A.st = σ ∧ u.length ≤ s.length ∧ r.length ≤ s.length) (fun A ⟨u, r, hrv, h0, h6, h7, hst, hul, hrl⟩ => ?_) (fun hf => ?_) (fun hf => ?_)
  case refine_3 =>
    simp only [go_sem, simprocAttr, ↓reduceIte, h0, h6, h7, hst]
    have hf' : ¬ (0 ≤ lastOf 45 t) := by simpa using hf
    refine ⟨t, [], ?_⟩
    simp [revP, hf', htl]
  case refine_2 =>
    obtain ⟨i, hi, hgi, hlt⟩ := (lastOf_cases 45 t).resolve_left (fun e => by rw [e.1] at hf; simp at hf)
    rw [hi]
    have hw : IntKind.i64.wrap ((i : Int) + 1) = ((i + 1 : Nat) : Int) := wrap_succ hlt (by omega)
    have hrv : revP t = if t.drop (i + 1) = [] then none else some (t.take i, t.drop (i + 1)) := by
      rw [revP, hi, if_pos (by omega)]; rfl
    simp only [go_sem, simprocAttr, ↓reduceIte, hw, h0, h6, h7, hst]
    refine ⟨.of (by kernel_rfl), by omega, by omega, fun hb => none_end (by rw [verP, if_neg hlen, hep]; simp only [hrv, if_pos hb]), fun hb => ⟨t.take i, t.drop (i + 1), ?_⟩⟩
    rw [hrv, if_neg hb]
    simp
    omega
  have hv : verP s = if r.all revCh && u.all upCh && startsD u then some (e, u, r) else none := by
    rw [verP, if_neg hlen, hep]; simp only [hrv]
  simp only [go_sem, simprocAttr, ↓reduceIte, h0, h6, h7, hst]
  refine LoopVC.cut (fun A => A.env 0 = .str u ∧ A.env 6 = .str e ∧ A.env 7 = .str r ∧ A.st = σ ∧ r.all revCh = true) (fun A ⟨h0, h6, h7, hst, hr⟩ => ?_) ?_
  case refine_2 =>
    refine VC.upto [] r.length (fun j A => A.env 0 = .str u ∧ A.env 6 = .str e ∧ A.env 7 = .str r ∧ A.env 67 = .int .i64 r.length ∧ A.env 68 = .int .i64 j ∧ A.st = σ ∧ (r.take j).all revCh = true) 0 (Nat.zero_le _) (.here ?_) fun j A hj ⟨h0, h6, h7, h67, h68, hst, hI⟩ => ?_
    · simp only [go_sem, simprocAttr, ↓reduceIte, h0, h6, h7, hst]
      all_goals simp
    simp only [go_sem, simprocAttr, ↓reduceIte, h0, h6, h7, h67, h68, hst]
    refine ⟨fun hlt => ⟨hlt, ?_⟩, fun hge => by rwa [List.take_of_length_le hge] at hI⟩
    obtain ⟨c, hc⟩ := get_some hlt
    simp only [hc, Option.getD_some]
    refine CallA.fn (r4_letter c) ?_
    simp only [go_sem, simprocAttr, ↓reduceIte, h0, h6, h7, h67, h68, hst]
    refine CallP.fnG (fun _ => r4_digit c) ?_
    simp only [go_sem, simprocAttr, ↓reduceIte, h0, h6, h7, h67, h68, hst, revCh_not]
    refine ⟨fun hb => none_end (by rw [hv, all_false hc hb]; rfl), fun hb => ⟨hlt, .here ?_⟩⟩
    simp only [go_sem, simprocAttr, ↓reduceIte, h0, h6, h7, h67, h68, hst]
    exact ⟨int_succ hlt (by omega), all_take hI hc hb⟩
  simp only [go_sem, simprocAttr, ↓reduceIte, h0, h6, h7, hst]
  refine LoopVC.cut (fun A => A.env 0 = .str u ∧ A.env 6 = .str e ∧ A.env 7 = .str r ∧ A.st = σ ∧ u.all upCh = true) (fun A ⟨h0, h6, h7, hst, hu⟩ => ?_) ?_
  case refine_2 =>
    refine VC.upto [] u.length (fun j A => A.env 0 = .str u ∧ A.env 6 = .str e ∧ A.env 7 = .str r ∧ A.env 96 = .int .i64 u.length ∧ A.env 97 = .int .i64 j ∧ A.st = σ ∧ (u.take j).all upCh = true) 0 (Nat.zero_le _) (.here ?_) fun j A hj ⟨h0, h6, h7, h96, h97, hst, hI⟩ => ?_
    · simp only [go_sem, simprocAttr, ↓reduceIte, h0, h6, h7, hst]
      all_goals simp
    simp only [go_sem, simprocAttr, ↓reduceIte, h0, h6, h7, h96, h97, hst]
    refine ⟨fun hlt => ⟨hlt, ?_⟩, fun hge => by rwa [List.take_of_length_le hge] at hI⟩
    obtain ⟨c, hc⟩ := get_some hlt
    simp only [hc, Option.getD_some]
    refine CallA.fn (r4_letter c) ?_
    simp only [go_sem, simprocAttr, ↓reduceIte, h0, h6, h7, h96, h97, hst]
    refine CallP.fnG (fun _ => r4_digit c) ?_
    simp only [go_sem, simprocAttr, ↓reduceIte, h0, h6, h7, h96, h97, hst, upCh_not]
    refine ⟨fun hb => none_end (by rw [hv, all_false hc hb]; simp), fun hb => ⟨hlt, .here ?_⟩⟩
    simp only [go_sem, simprocAttr, ↓reduceIte, h0, h6, h7, h96, h97, hst]
    exact ⟨int_succ hlt (by omega), all_take hI hc hb⟩
  simp only [go_sem, simprocAttr, ↓reduceIte, h0, h6, h7, hst]
  cases u with
  | nil =>
    simp only [go_sem, simprocAttr, ↓reduceIte, h0, h6, h7, hst]
    refine CallP.fnG (fun _ => r4_digit 0) ?_
    simp only [go_sem, simprocAttr, ↓reduceIte, h0, h6, h7, hst]
    exact none_end (by rw [hv]; simp [startsD])
  | cons c u' =>
    simp only [go_sem, simprocAttr, ↓reduceIte, h0, h6, h7, hst]
    refine CallP.fnG (fun _ => r4_digit c) ?_
    simp only [go_sem, simprocAttr, ↓reduceIte, h0, h6, h7, hst]
    refine ⟨fun hd => none_end (by rw [hv]; simp [startsD, hd]), fun hd => ?_⟩
    rw [hv, hr, hu]
    simp only [startsD, hd, Bool.and_true, if_true]
    exact .refl _

theorem r4_is (s : List UInt8) : PureFn prog W0 34 [.str s] (.bool (isVer s)) := by
  refine fn_pure [2] [] func34 rfl rfl ntmps34 rfl rfl (.bool _) fun hs σ => ?_
  simp only [go_sem, simprocAttr, ↓reduceIte]
  refine CallA.fn (r4_version s) ?_
  cases h : verP s with
  | none => simp only [go_sem, simprocAttr, ↓reduceIte, verAV]; exact weak_bool (by simp [isVer, h])
  | some v => obtain ⟨e, u, r⟩ := v; simp only [go_sem, simprocAttr, ↓reduceIte, verAV]; exact weak_bool (by simp [isVer, h])

theorem r4_compare (a b : List UInt8) : PureFn prog W0 53 [.str a, .str b] (.int .i64 (cmpVer a b)) := by
  refine fn_pure [4] [14] func53 rfl rfl ntmps53 rfl rfl (.int _ _) fun hs σ => ?_
  simp only [go_sem, simprocAttr, ↓reduceIte]
  refine CallA.fn (r4_version a) ?_
  cases h : verP a with
  | none =>
    simp only [go_sem, simprocAttr, ↓reduceIte, verAV]
    refine CallA.fn (r4_version b) ?_
    cases h' : verP b with
    | none => simp only [go_sem, simprocAttr, ↓reduceIte, verAV]; exact weak_int (by simp [cmpVer, h])
    | some v => obtain ⟨f, v, t⟩ := v; simp only [go_sem, simprocAttr, ↓reduceIte, verAV]; exact weak_int (by simp [cmpVer, h])
  | some v =>
    obtain ⟨e, u, r⟩ := v
    simp only [go_sem, simprocAttr, ↓reduceIte, verAV]
    refine CallA.fn (r4_version b) ?_
    cases h' : verP b with
    | none => simp only [go_sem, simprocAttr, ↓reduceIte, verAV]; exact weak_int (by simp [cmpVer, h, h'])
    | some v =>
      obtain ⟨f, v, t⟩ := v
      simp only [go_sem, simprocAttr, ↓reduceIte, verAV]
      refine VC.upto _ 3 (fun i A => A.env 45 = .agg 130 [.agg 129 [.str e, .str f], .agg 129 [.str u, .str v], .agg 129 [.str r, .str t]] ∧ A.env 46 = .int .i64 i ∧ Ext σ A.st ∧ (1 ≤ i → partV e f = 0) ∧ (2 ≤ i → partV u v = 0) ∧ (3 ≤ i → partV r t = 0)) 0 (Nat.zero_le _) (.here ?_) fun i A hi ⟨h45, h46, hst, hI⟩ => ?_
      · simp only [go_sem, simprocAttr, ↓reduceIte]
        simp [Ext.refl]
      obtain ⟨hI1, hI2, hI3⟩ := hI
      have hc : cmpVer a b = if partV e f ≠ 0 then partV e f else if partV u v ≠ 0 then partV u v else partV r t := by simp only [cmpVer, h, h']
      rcases (show i = 0 ∨ i = 1 ∨ i = 2 ∨ i = 3 by omega) with rfl | rfl | rfl | rfl
      · simp only [go_sem, simprocAttr, ↓reduceIte, h45, h46]
        refine CallA.fn (r4_part e f) ?_
        simp only [go_sem, simprocAttr, ↓reduceIte, h45, h46]
        refine ⟨fun hp => ⟨weak_int (by rw [hc, if_pos hp]), hst.app _⟩, fun hp => .here ?_⟩
        simp only [go_sem, simprocAttr, ↓reduceIte, h45, h46]
        exact ⟨hst.app _, by simp [hp]⟩
      · simp only [go_sem, simprocAttr, ↓reduceIte, h45, h46]
        refine CallA.fn (r4_part u v) ?_
        simp only [go_sem, simprocAttr, ↓reduceIte, h45, h46]
        refine ⟨fun hp => ⟨weak_int (by rw [hc, if_neg (by simp [hI1 (by omega)]), if_pos hp]), hst.app _⟩, fun hp => .here ?_⟩
        simp only [go_sem, simprocAttr, ↓reduceIte, h45, h46]
        exact ⟨hst.app _, by simp [hp, hI1 (by omega)]⟩
      · simp only [go_sem, simprocAttr, ↓reduceIte, h45, h46]
        refine CallA.fn (r4_part r t) ?_
        simp only [go_sem, simprocAttr, ↓reduceIte, h45, h46]
        refine ⟨fun hp => ⟨weak_int (by rw [hc, if_neg (by simp [hI1 (by omega)]), if_neg (by simp [hI2 (by omega)])]), hst.app _⟩, fun hp => .here ?_⟩
        simp only [go_sem, simprocAttr, ↓reduceIte, h45, h46]
        exact ⟨hst.app _, by simp [hp, hI1 (by omega), hI2 (by omega)]⟩
      · simp only [go_sem, simprocAttr, ↓reduceIte, h45, h46]
        exact ⟨weak_int (by rw [hc, if_neg (by simp [hI1 (by omega)]), if_neg (by simp [hI2 (by omega)]), hI3 (by omega)]), hst⟩

theorem r4_sameVersion (a b : List UInt8) : PureFn prog W0 25 [.str a, .str b] (.bool (sameVer a b)) := by
  refine fn_pure [4] [] func25 rfl rfl ntmps25 rfl rfl (.bool _) fun hs σ => ?_
  simp only [go_sem, simprocAttr, ↓reduceIte]
  refine CallA.fn (r4_is a) ?_
  simp only [go_sem, simprocAttr, ↓reduceIte]
  refine CallP.fnG (fun _ => r4_is b) ?_
  simp only [go_sem, simprocAttr, ↓reduceIte]
  refine CallP.fnG (fun _ => r4_compare a b) ?_
  simp only [go_sem, simprocAttr, ↓reduceIte]
  exact weak_bool rfl

theorem r4_holds (rel : Int) (a b : List UInt8) : PureFn prog W0 89 [.int .i64 rel, .str a, .str b] (.bool (holdsV rel a b)) := by
  refine fn_pure [6] [] func89 rfl rfl ntmps89 rfl rfl (.bool _) fun hs σ => ?_
  simp only [go_sem, simprocAttr, ↓reduceIte]
  refine ⟨fun h0 => CallA.fn (r4_is a) ?_, fun h0 => CallA.fn (r4_is a) ?_⟩
  · simp only [go_sem, simprocAttr, ↓reduceIte]
    exact weak_bool (by rw [holdsV, if_pos h0])
  simp only [go_sem, simprocAttr, ↓reduceIte]
  refine CallP.fnG (fun _ => r4_is b) ?_
  simp only [go_sem, simprocAttr, ↓reduceIte]
  refine ⟨fun hb => ?_, fun hb => ?_⟩
  · have : (isVer a && isVer b) = false := by revert hb; cases isVer a <;> cases isVer b <;> simp
    exact weak_bool (by rw [holdsV, if_neg h0, this]; rfl)
  have hv : (isVer a && isVer b) = true := by revert hb; cases isVer a <;> cases isVer b <;> simp
  have hh : holdsV rel a b = (if rel = 1 then decide (cmpVer a b < 0) else if rel = 2 then decide (cmpVer a b ≤ 0) else if rel = 3 then cmpVer a b == 0
     else if rel = 4 then decide (0 ≤ cmpVer a b) else if rel = 5 then decide (0 < cmpVer a b) else false) := by rw [holdsV, if_neg h0, if_pos hv]
  refine CallA.fn (r4_compare a b) ?_
  simp only [go_sem, simprocAttr, ↓reduceIte]
  refine ⟨fun h1 => weak_bool (by rw [hh, if_pos h1]), fun h1 => ⟨fun h2 => weak_bool (by rw [hh, if_neg h1, if_pos h2]), fun h2 => ⟨fun h3 => weak_bool (by rw [hh, if_neg h1, if_neg h2, if_pos h3]), fun h3 => ⟨fun h4 => weak_bool (by rw [hh, if_neg h1, if_neg h2, if_neg h3, if_pos h4]), fun h4 => ⟨fun h5 => weak_bool (by rw [hh, if_neg h1, if_neg h2, if_neg h3, if_neg h4, if_pos h5]), fun h5 => weak_bool (by rw [hh, if_neg h1, if_neg h2, if_neg h3, if_neg h4, if_neg h5])⟩⟩⟩⟩⟩

/-- A relation's sign; empty: none. -/
def signV (rel : Int) : List UInt8 := if rel = 1 then [60, 60] else if rel = 2 then [60, 61] else if rel = 3 then [61] else if rel = 4 then [62, 61] else if rel = 5 then [62, 62] else []

theorem r4_signV (rel : Int) : PureFn prog W0 88 [.int .i64 rel] (.str (signV rel)) := by
  refine fn_pure [2] [] func88 rfl rfl ntmps88 rfl rfl (.str _) fun hs σ => ?_
  simp only [go_sem, simprocAttr, ↓reduceIte]
  refine ⟨fun h1 => weak_str (by rw [signV, if_pos h1]), fun h1 => ⟨fun h2 => weak_str (by rw [signV, if_neg h1, if_pos h2]), fun h2 => ⟨fun h3 => weak_str (by rw [signV, if_neg h1, if_neg h2, if_pos h3]), fun h3 => ⟨fun h4 => weak_str (by rw [signV, if_neg h1, if_neg h2, if_neg h3, if_pos h4]), fun h4 => ⟨fun h5 => weak_str (by rw [signV, if_neg h1, if_neg h2, if_neg h3, if_neg h4, if_pos h5]), fun h5 => weak_str (by rw [signV, if_neg h1, if_neg h2, if_neg h3, if_neg h4, if_neg h5])⟩⟩⟩⟩⟩
end Go.Proofs.Tryz
end
section
namespace Go.Av

def nameCh (i : Nat) (c : UInt8) : Bool := smallC c || digitC c || (i != 0 && (c.toNat == 43 || c.toNat == 45 || c.toNat == 46))
def allIdxB (f : Nat → UInt8 → Bool) (i : Nat) : List UInt8 → Bool
  | [] => true
  | c :: r => f i c && allIdxB f (i + 1) r
def nameOk (s : List UInt8) : Bool := decide (2 ≤ s.length) && decide (s.length ≤ 24) && allIdxB nameCh 0 s

theorem allIdxB_iff {f : Nat → UInt8 → Bool} : ∀ {i : Nat} {l : List UInt8}, allIdxB f i l = true ↔ ∀ (j : Nat) (x : UInt8), l[j]? = some x → f (i + j) x = true
  | i, [] => by simp [allIdxB]
  | i, c :: r => by
    simp only [allIdxB, Bool.and_eq_true, allIdxB_iff (l := r)]
    constructor
    · rintro ⟨h1, h2⟩ j x hx
      cases j with
      | zero => simp at hx; subst hx; exact h1
      | succ j => have := h2 j x (by simpa using hx); rwa [show i + 1 + j = i + (j + 1) by omega] at this
    · intro h
      refine ⟨h 0 c rfl, fun j x hx => ?_⟩
      have := h (j + 1) x (by simpa using hx)
      rwa [show i + (j + 1) = i + 1 + j by omega] at this

theorem allIdxB_false {f : Nat → UInt8 → Bool} {l : List UInt8} {j : Nat} {x : UInt8} (h : l[j]? = some x) (hf : f j x = false) : allIdxB f 0 l = false := by
  cases h' : allIdxB f 0 l with
  | false => rfl
  | true =>
    have := allIdxB_iff.1 h' j x h
    rw [Nat.zero_add, hf] at this
    cases this

structure Atom where
  name : List UInt8
  rel : Int
  ver : List UInt8
  deriving DecidableEq

structure Prov where
  name : List UInt8
  ver : List UInt8
  deriving DecidableEq

abbrev Clause := List Atom

structure Pkg where
  name : List UInt8
  ver : List UInt8
  pre : List Clause
  dep : List Clause
  rcm : List Clause
  con : List Atom
  brk : List Atom
  prov : List Prov
  ess : Bool
  deriving DecidableEq

/-- May an atom be? -/
def mayAtom (a : Atom) : Bool :=
  nameOk a.name && (if a.rel = 0 then a.ver == [] else decide (1 ≤ a.rel) && decide (a.rel ≤ 5) && isVer a.ver)

end Go.Av
end
section
namespace Go.Av
open Go

def idxL {α : Type} (q : α → Bool) (l : List α) : Int := match l.findIdx? q with | some i => i | none => -1

theorem idxL_at {α : Type} {q : α → Bool} {l : List α} {i : Nat} {a : α} (h : l[i]? = some a) (hq : q a = true) (hn : ∀ b ∈ l.take i, q b = false) : idxL q l = i := by
  have : l.findIdx? q = some i := by
    obtain ⟨hi, he⟩ := List.getElem?_eq_some_iff.1 h
    refine List.findIdx?_eq_some_iff_getElem.2 ⟨hi, by rw [he]; exact hq, fun j hj => ?_⟩
    have := hn l[j] (List.mem_of_getElem? (i := j) (by rw [List.getElem?_take, if_pos hj]; exact List.getElem?_eq_getElem (by omega)))
    simp [this]
  rw [idxL, this]

theorem idxL_none {α : Type} {q : α → Bool} {l : List α} (hn : ∀ b ∈ l, q b = false) : idxL q l = -1 := by
  have : l.findIdx? q = none := List.findIdx?_eq_none_iff.2 hn
  rw [idxL, this]

theorem idxL_ge {α : Type} {q : α → Bool} {l : List α} : decide (0 ≤ idxL q l) = l.any q := by
  unfold idxL
  cases h : l.findIdx? q with
  | none =>
    have := List.findIdx?_eq_none_iff.1 h
    have e : l.any q = false := by rw [List.any_eq_false]; intro x hx; simp [this x hx]
    rw [e]; rfl
  | some i =>
    obtain ⟨hi, h1, _⟩ := List.findIdx?_eq_some_iff_getElem.1 h
    have e : l.any q = true := List.any_eq_true.2 ⟨_, List.getElem_mem hi, h1⟩
    rw [e]
    simp

theorem look_set {σ : Store} {id : Nat} {te : TypeId} {xs : List AV} (h : id < σ.length) (i : Nat) (path : List Nat) : look (σ.set id (some (.cells te xs))) id i path = (xs[i]?).bind (·.at path) := by simp [look, h]
theorem look_id {σ : Store} {id : Nat} {te : TypeId} {xs : List AV} (h : σ[id]? = some (some (.cells te xs))) (i : Nat) (path : List Nat) : look σ id i path = (xs[i]?).bind (·.at path) := by simp [look, h]
theorem setLook_set {σ : Store} {id : Nat} {te : TypeId} {xs : List AV} (h : id < σ.length) (i : Nat) (path : List Nat) (v : AV) : setLook (σ.set id (some (.cells te xs))) id i path v = σ.set id (some (.cells te (xs.set i ((xs[i]?.getD .undef).setAt path v)))) := by simp [setLook, h]
theorem setLook_id {σ : Store} {id : Nat} {te : TypeId} {xs : List AV} (h : σ[id]? = some (some (.cells te xs))) (i : Nat) (path : List Nat) (v : AV) : setLook σ id i path v = σ.set id (some (.cells te (xs.set i ((xs[i]?.getD .undef).setAt path v)))) := by simp [setLook, h]
theorem set_id {σ : Store} {id : Nat} {o : Option SObj} (h : σ[id]? = some o) : σ.set id o = σ := by
  obtain ⟨h1, h2⟩ := List.getElem?_eq_some_iff.1 h
  rw [← h2, List.set_getElem_self]

@[go_sem] theorem setAt_cons (t : TypeId) (fs : List AV) (k : Nat) (r : List Nat) (v : AV) : (AV.agg t fs).setAt (k :: r) v = .agg t (fs.set k ((fs[k]?.getD .undef).setAt r v)) := by
  cases h : fs[k]? with
  | none => simp only [AV.setAt, h, Option.getD_none]; rw [List.set_eq_of_length_le (List.getElem?_eq_none_iff.1 h)]
  | some y => simp only [AV.setAt, h, Option.getD_some]

/-- A call from a store that is known. -/
theorem CallA.go {P : Program} {W0 : World} {A : AState} {g : FuncId} {caps us : List AV} {dst : Option Nat} {k : AState → Prop} {Q : AV → Store → Prop} {σ : Store} (hσ : A.st = σ) (h : ACall P W0 g (us ++ caps) σ Q) (hk : ∀ r σ', Q r σ' → k ((A.put dst r).withSt σ')) : CallA P W0 (.fn g caps) us dst A k .mk := by
  subst hσ
  exact h.mono hk
theorem CallA.goes {P : Program} {W0 : World} {A : AState} {g : FuncId} {us : List AV} {dst : Option Nat} {k : AState → Prop} {Q : AV → Store → Prop} {σ : Store} (hσ : A.st = σ) (h : ACall P W0 g us σ Q) (hk : ∀ r σ', Q r σ' → k ((A.put dst r).withSt σ')) : CallA P W0 (.fn g []) us dst A k .mk := .go hσ (by simpa using h) hk
/-- One that leaves the store as it was. -/
theorem CallA.reads {P : Program} {W0 : World} {A : AState} {g : FuncId} {us : List AV} {dst : Option Nat} {k : AState → Prop} {r : AV} {σ : Store} (hσ : A.st = σ) (h : ACall P W0 g us σ fun r' σ' => r' = r ∧ σ' = σ) (hk : k (A.put dst r)) : CallA P W0 (.fn g []) us dst A k .mk := .goes hσ h fun r' σ' ⟨h1, h2⟩ => by
  subst h1 h2 hσ
  rwa [put_withSt]

theorem u8_wrap (c : UInt8) : IntKind.u8.wrap (c.toNat : Int) = c.toNat := by
  have := c.toNat_lt
  show (c.toNat : Int) % 256 = c.toNat
  omega
theorem encL_ascii {c : UInt8} (h : c.toNat < 128) : encL (c.toNat : Int) = [c] := by
  have hv : Utf8.valid (c.toNat : Int) = true := by
    simp only [Utf8.valid]
    simp
    omega
  have e : Utf8.encode (c.toNat : Int) = ⟨#[UInt8.ofNat c.toNat]⟩ := by
    unfold Utf8.encode
    rw [if_pos hv, if_pos (by simpa using h)]
    simp
  rw [encL, e]
  simp

/-- Two texts, by their bytes. -/
def cmpS (a b : List UInt8) : Int := if Op.bytesLess a b = true then -1 else if a = b then 0 else 1

/-- The first that isn't 0. -/
def orL : List Int → Int
  | [] => 0
  | x :: r => if x ≠ 0 then x else orL r

theorem indexByte_firstOf (s : List UInt8) (c : UInt8) : Lib.indexByte s c = firstOf c s := by
  induction s with
  | nil => rfl
  | cons d r ih =>
    unfold Lib.indexByte
    cases h : d == c with
    | true => simp [firstOf, List.findIdx?_cons, h]
    | false =>
      simp only [Bool.false_eq_true, if_false, ih]
      rcases firstOf_cases c r with ⟨h1, h2⟩ | ⟨i, h1, _, _⟩
      · rw [h1]
        have : (d :: r).findIdx? (· == c) = none := List.findIdx?_eq_none_iff.2 fun x hx => by
          rcases List.mem_cons.1 hx with rfl | hx
          · exact h
          · simp; intro e; subst e; exact h2 hx
        simp [firstOf, this]
      · have hne : ((firstOf c r) == -1) = false := by rw [h1, beq_eq_false_iff_ne]; omega
        rw [hne]
        simp only [Bool.false_eq_true, if_false]
        have hf : r.findIdx? (· == c) = some i := by
          unfold firstOf at h1
          split at h1
          · rename_i j hj; rw [hj]; congr 1; omega
          · omega
        rw [h1]
        simp [firstOf, List.findIdx?_cons, h, hf]

theorem firstOf_ge (s : List UInt8) (c : UInt8) : decide (0 ≤ firstOf c s) = s.contains c := by
  rcases firstOf_cases c s with ⟨h1, h2⟩ | ⟨i, h1, h2, _⟩
  · rw [h1]; simp [h2]
  · rw [h1]
    have : c ∈ s := List.mem_of_getElem? h2
    simp [this]

/-- Ahead of a sign, behind it, and whether it is there. -/
def cutA (c : UInt8) (s : List UInt8) : List UInt8 := if 0 ≤ firstOf c s then s.take (firstOf c s).toNat else s
def cutB (c : UInt8) (s : List UInt8) : List UInt8 := if 0 ≤ firstOf c s then s.drop ((firstOf c s).toNat + 1) else []
def cutAV (c : UInt8) (s : List UInt8) : AV := .tup [.str (cutA c s), .str (cutB c s), .bool (decide (0 ≤ firstOf c s))]
theorem cutAV_ids (c : UInt8) (s : List UInt8) : IdsLt 0 (cutAV c s) := by
  refine .tup fun x hx => ?_
  simp at hx
  rcases hx with rfl | rfl | rfl <;> first | exact .str _ | exact .bool _

end Go.Av
end
section
namespace Go.Proofs.Tryz
open Go Go.Av
set_option maxRecDepth 10000
set_option linter.unusedSimpArgs false
set_option linter.unusedVariables false
variable {W0 : World}

def atomAV (a : Atom) : AV := .agg 48 [.str a.name, .int .i64 a.rel, .str a.ver]
def atomsAV (l : List Atom) : AV := .sl 48 (l.map atomAV)
def clausesAV (l : List Clause) : AV := .sl 49 (l.map atomsAV)
def provAV (p : Prov) : AV := .agg 105 [.str p.name, .str p.ver]
def provsAV (l : List Prov) : AV := .sl 105 (l.map provAV)
def pkgAV (p : Pkg) : AV := .agg 38 [.str p.name, .str p.ver, clausesAV p.pre, clausesAV p.dep, clausesAV p.rcm, atomsAV p.con, atomsAV p.brk, provsAV p.prov, .bool p.ess]
def pkgsAV (l : List Pkg) : AV := .sl 38 (l.map pkgAV)

theorem r4_name (s : List UInt8) : PureFn prog W0 33 [.str s] (.bool (nameOk s)) := by
  refine fn_pure [2] [] func33 rfl rfl ntmps33 rfl rfl (.bool _) fun hs σ => ?_
  have hsl : s.length ≤ maxLen := small_str (hs _ (by simp))
  simp only [go_sem, simprocAttr, ↓reduceIte]
  refine VC.upto [] s.length (fun i A => A.env 0 = .str s ∧ A.env 6 = .int .i64 s.length ∧ A.env 7 = .int .i64 i ∧ A.st = σ ∧ ∀ j c, j < i → s[j]? = some c → nameCh j c = true) 0 (Nat.zero_le _) (.here ?_) fun i A hi ⟨h0, h6, h7, hst, hI⟩ => ?_
  · simp only [go_sem, simprocAttr, ↓reduceIte]
    all_goals simp
  simp only [go_sem, simprocAttr, ↓reduceIte, h0, h6, h7, hst]
  refine ⟨fun hc => ⟨hc, CallA.fn (r4_small _) ?_⟩, fun hc => ?_⟩
  · obtain ⟨c, hc'⟩ := get_some hc
    simp only [go_sem, simprocAttr, ↓reduceIte, h0, h6, h7, hst, hc']
    refine CallP.fnG (fun _ => r4_digit _) ?_
    simp only [go_sem, simprocAttr, ↓reduceIte, h0, h6, h7, hst, hc']
    refine ⟨fun hb => weak_bool ?_, fun hb => ⟨hc, .here ?_⟩⟩
    · have : nameCh i c = false := by simp [nameCh] at hb ⊢; refine ⟨hb.1, ?_⟩; omega
      rw [nameOk, allIdxB_false hc' this, Bool.and_false]
    · simp only [go_sem, simprocAttr, ↓reduceIte, h0, h6, h7, hst]
      refine ⟨int_succ hc hsl, fun j d hj hd => ?_⟩
      rcases Nat.lt_succ_iff_lt_or_eq.1 hj with hj | rfl
      · exact hI j d hj hd
      · have e : d = c := by rw [hd] at hc'; exact Option.some.inj hc'
        subst e
        revert hb
        unfold nameCh
        cases smallC d <;> cases digitC d <;> simp
        omega
  · have : allIdxB nameCh 0 s = true := allIdxB_iff.2 fun j c hj => by rw [Nat.zero_add]; exact hI j c (by have := (List.getElem?_eq_some_iff.1 hj).1; omega) hj
    refine weak_bool ?_
    rw [nameOk, this, Bool.and_true]
    congr 1 <;> exact decide_eq_decide.2 (by omega)

theorem signV_some (rel : Int) : (!(signV rel == [])) = (decide (1 ≤ rel) && decide (rel ≤ 5)) := by
  unfold signV
  by_cases h1 : rel = 1
  · subst h1; rfl
  by_cases h2 : rel = 2
  · subst h2; rfl
  by_cases h3 : rel = 3
  · subst h3; rfl
  by_cases h4 : rel = 4
  · subst h4; rfl
  by_cases h5 : rel = 5
  · subst h5; rfl
  rw [if_neg h1, if_neg h2, if_neg h3, if_neg h4, if_neg h5]
  simp
  omega

theorem r4_mayAtom (a : Atom) : PureFn prog W0 62 [atomAV a] (.bool (mayAtom a)) := by
  refine fn_pure [2] [1] func62 rfl rfl ntmps62 rfl rfl (.bool _) fun hs σ => ?_
  simp only [go_sem, simprocAttr, ↓reduceIte, atomAV]
  refine CallA.fn (r4_name a.name) ?_
  simp only [go_sem, simprocAttr, ↓reduceIte, atomAV]
  refine ⟨fun hn => weak_bool (by rw [mayAtom, hn]; rfl), fun hn => ⟨fun h0 => weak_bool (by rw [mayAtom, hn, if_pos h0]; rfl), fun h0 => CallA.fn (r4_signV a.rel) ?_⟩⟩
  simp only [go_sem, simprocAttr, ↓reduceIte, atomAV]
  refine CallP.fnG (fun _ => r4_is a.ver) ?_
  simp only [go_sem, simprocAttr, ↓reduceIte, atomAV]
  refine weak_bool ?_
  rw [mayAtom, hn, if_neg h0, Bool.true_and, signV_some]
end Go.Proofs.Tryz
end
section
namespace Go.Proofs.Tryz
open Go Go.Av
set_option maxRecDepth 10000
set_option linter.unusedSimpArgs false
set_option linter.unusedVariables false
variable {W0 : World}

theorem ve_digit (c : UInt8) : PureFn prog W0 128 [.int .u8 c.toNat] (.bool (digitC c)) := by
  refine fn_pure [2] [] func128 rfl rfl ntmps128 rfl rfl (.bool _) fun _ σ => ?_
  simp only [go_sem, simprocAttr, ↓reduceIte]
  exact weak_bool (by rw [digitC]; congr 1 <;> exact decide_eq_decide.2 (by omega))

theorem ve_letter (c : UInt8) : PureFn prog W0 150 [.int .u8 c.toNat] (.bool (letterC c)) := by
  refine fn_pure [2] [] func150 rfl rfl ntmps150 rfl rfl (.bool _) fun _ σ => ?_
  simp only [go_sem, simprocAttr, ↓reduceIte]
  refine weak_bool ?_
  unfold letterC smallC
  congr 2 <;> exact decide_eq_decide.2 (by omega)

theorem ve_epochOf (s : List UInt8) : PureFn prog W0 126 [.str s] (.bool (decide (1 ≤ s.length) && decide (s.length ≤ 9) && s.all digitC)) := by
  refine fn_pure [2] [] func126 rfl rfl ntmps126 rfl rfl (.bool _) fun hs σ => ?_
  simp only [go_sem, simprocAttr, ↓reduceIte]
  refine ⟨fun h => weak_bool ?_, fun h => ?_⟩
  · cases s with
    | nil => rfl
    | cons c r =>
      have : ¬ ((c :: r).length ≤ 9) := by simp at h ⊢; omega
      rw [decide_eq_false this]; simp
  have hl : 1 ≤ s.length ∧ s.length ≤ 9 := by cases s <;> simp at h ⊢; omega
  refine VC.falls [] (fun k A => ∃ pos, A.env 13 = .it σ.length ∧ A.st = σ ++ [some (.iter s pos)] ∧ k = s.length - pos ∧ pos ≤ s.length ∧ (s.take pos).all digitC = true) s.length (.here ⟨0, ?_⟩) fun k A ⟨pos, h13, hst, hk, hp, hI⟩ => ?_
  · simp only [go_sem, simprocAttr, ↓reduceIte]
    all_goals simp
  simp only [go_sem, simprocAttr, ↓reduceIte, h13, hst]
  refine ⟨fun hlt => ?_, fun hge => ?_⟩
  · obtain ⟨c, hc⟩ := get_some hlt
    simp only [Bool.or_eq_true, Bool.or_eq_false_iff, decide_eq_true_eq, decide_eq_false_iff_not]
    have bad : digitC c = false → (decide (1 ≤ s.length) && decide (s.length ≤ 9) && s.all digitC) = false := fun hd => by rw [all_false hc hd, Bool.and_false]
    rcases Nat.lt_or_ge c.toNat 128 with h8 | h8
    · rw [decAt_ascii hc h8]
      refine ⟨fun hb => weak_bool (bad ?_).symm, fun hb => .here (s.length - (pos + 1)) (by omega) ⟨pos + 1, ?_⟩⟩
      · simp [digitC]; omega
      · simp only [go_sem, simprocAttr, ↓reduceIte, h13, hst]
        exact ⟨by omega, all_take hI hc (by simp [digitC]; omega)⟩
    · have := decAt_big hc h8
      refine ⟨fun hb => weak_bool (bad ?_).symm, fun hb => by omega⟩
      simp [digitC]; omega
  · have : pos = s.length := by omega
    rw [this, List.take_length] at hI
    refine weak_bool ?_
    simp [hl, hI]
end Go.Proofs.Tryz
end
section
namespace Go.Proofs.Tryz
open Go Go.Av
set_option maxRecDepth 10000
set_option linter.unusedSimpArgs false
set_option linter.unusedVariables false
variable {W0 : World}

theorem ixAtomC {α : Type} (enc : α → AV) (hp : ∀ a, NotM (enc a)) (l : List α) (q : α → Bool) (g : FuncId) (caps : List AV) (h : ∀ a ∈ l, PureFn prog W0 g ([enc a] ++ caps) (.bool (q a))) :
    PureFn prog W0 72 [.sl 48 (l.map enc), .fn g caps] (.int .i64 (idxL q l)) := by
  refine fn_pure [4] [] func72 rfl rfl ntmps72 rfl rfl (.int _ _) fun hs σ => ?_
  have hl := (small_map (hs _ (List.mem_cons_self ..))).1
  simp only [go_sem, simprocAttr, ↓reduceIte]
  refine LoopVC.upto [0, 1, 7] (.of (by kernel_rfl)) l.length (fun i A => A.env 8 = .int .i64 i ∧ A.st = σ ∧ ∀ a ∈ l.take i, q a = false) 0 (Nat.zero_le _) ?_ fun i B hi ⟨h8, hst, hI⟩ => ?_
  · simp only [go_sem, simprocAttr, ↓reduceIte]
    all_goals simp
  simp only [go_sem, simprocAttr, ↓reduceIte, h8, hst, List.length_map]
  refine ⟨fun hc => ⟨hc, ?_⟩, fun hc => weak_int ?_⟩
  · obtain ⟨a, ha⟩ := get_some hc
    simp only [atV_map ha, okM_notM (hp a), unm_notM (hp a), true_and]
    refine CallA.pure (h a (List.mem_of_getElem? ha)) ?_
    simp only [go_sem, simprocAttr, ↓reduceIte, h8, hst]
    refine ⟨fun hq => weak_int (idxL_at ha hq hI).symm, fun hq => ⟨hc, int_succ hc hl, ?_⟩⟩
    rw [take_succ_get ha]
    intro b hb
    rcases List.mem_append.1 hb with hb | hb
    · exact hI b hb
    · rw [List.mem_singleton.1 hb]; exact hq
  · rw [idxL_none]
    rwa [List.take_of_length_le hc] at hI
theorem ixAtom {α : Type} (enc : α → AV) (hp : ∀ a, NotM (enc a)) (l : List α) (q : α → Bool) (g : FuncId) (caps : List AV) (h : ∀ a ∈ l, PureFn prog W0 g ([enc a] ++ caps) (.bool (q a))) :
    PureFn prog W0 138 [.sl 48 (l.map enc), .fn g caps] (.int .i64 (idxL q l)) := by
  refine fn_pure [4] [] func138 rfl rfl ntmps138 rfl rfl (.int _ _) fun hs σ => ?_
  have hl := (small_map (hs _ (List.mem_cons_self ..))).1
  simp only [go_sem, simprocAttr, ↓reduceIte]
  refine LoopVC.upto [0, 1, 7] (.of (by kernel_rfl)) l.length (fun i A => A.env 8 = .int .i64 i ∧ A.st = σ ∧ ∀ a ∈ l.take i, q a = false) 0 (Nat.zero_le _) ?_ fun i B hi ⟨h8, hst, hI⟩ => ?_
  · simp only [go_sem, simprocAttr, ↓reduceIte]
    all_goals simp
  simp only [go_sem, simprocAttr, ↓reduceIte, h8, hst, List.length_map]
  refine ⟨fun hc => ⟨hc, ?_⟩, fun hc => weak_int ?_⟩
  · obtain ⟨a, ha⟩ := get_some hc
    simp only [atV_map ha, okM_notM (hp a), unm_notM (hp a), true_and]
    refine CallA.pure (h a (List.mem_of_getElem? ha)) ?_
    simp only [go_sem, simprocAttr, ↓reduceIte, h8, hst]
    refine ⟨fun hq => weak_int (idxL_at ha hq hI).symm, fun hq => ⟨hc, int_succ hc hl, ?_⟩⟩
    rw [take_succ_get ha]
    intro b hb
    rcases List.mem_append.1 hb with hb | hb
    · exact hI b hb
    · rw [List.mem_singleton.1 hb]; exact hq
  · rw [idxL_none]
    rwa [List.take_of_length_le hc] at hI
theorem ixInt {α : Type} (enc : α → AV) (hp : ∀ a, NotM (enc a)) (l : List α) (q : α → Bool) (g : FuncId) (caps : List AV) (h : ∀ a ∈ l, PureFn prog W0 g ([enc a] ++ caps) (.bool (q a))) :
    PureFn prog W0 70 [.sl 3 (l.map enc), .fn g caps] (.int .i64 (idxL q l)) := by
  refine fn_pure [4] [] func70 rfl rfl ntmps70 rfl rfl (.int _ _) fun hs σ => ?_
  have hl := (small_map (hs _ (List.mem_cons_self ..))).1
  simp only [go_sem, simprocAttr, ↓reduceIte]
  refine LoopVC.upto [0, 1, 7] (.of (by kernel_rfl)) l.length (fun i A => A.env 8 = .int .i64 i ∧ A.st = σ ∧ ∀ a ∈ l.take i, q a = false) 0 (Nat.zero_le _) ?_ fun i B hi ⟨h8, hst, hI⟩ => ?_
  · simp only [go_sem, simprocAttr, ↓reduceIte]
    all_goals simp
  simp only [go_sem, simprocAttr, ↓reduceIte, h8, hst, List.length_map]
  refine ⟨fun hc => ⟨hc, ?_⟩, fun hc => weak_int ?_⟩
  · obtain ⟨a, ha⟩ := get_some hc
    simp only [atV_map ha, okM_notM (hp a), unm_notM (hp a), true_and]
    refine CallA.pure (h a (List.mem_of_getElem? ha)) ?_
    simp only [go_sem, simprocAttr, ↓reduceIte, h8, hst]
    refine ⟨fun hq => weak_int (idxL_at ha hq hI).symm, fun hq => ⟨hc, int_succ hc hl, ?_⟩⟩
    rw [take_succ_get ha]
    intro b hb
    rcases List.mem_append.1 hb with hb | hb
    · exact hI b hb
    · rw [List.mem_singleton.1 hb]; exact hq
  · rw [idxL_none]
    rwa [List.take_of_length_le hc] at hI
theorem ixPkg {α : Type} (enc : α → AV) (hp : ∀ a, NotM (enc a)) (l : List α) (q : α → Bool) (g : FuncId) (caps : List AV) (h : ∀ a ∈ l, PureFn prog W0 g ([enc a] ++ caps) (.bool (q a))) :
    PureFn prog W0 95 [.sl 38 (l.map enc), .fn g caps] (.int .i64 (idxL q l)) := by
  refine fn_pure [4] [] func95 rfl rfl ntmps95 rfl rfl (.int _ _) fun hs σ => ?_
  have hl := (small_map (hs _ (List.mem_cons_self ..))).1
  simp only [go_sem, simprocAttr, ↓reduceIte]
  refine LoopVC.upto [0, 1, 7] (.of (by kernel_rfl)) l.length (fun i A => A.env 8 = .int .i64 i ∧ A.st = σ ∧ ∀ a ∈ l.take i, q a = false) 0 (Nat.zero_le _) ?_ fun i B hi ⟨h8, hst, hI⟩ => ?_
  · simp only [go_sem, simprocAttr, ↓reduceIte]
    all_goals simp
  simp only [go_sem, simprocAttr, ↓reduceIte, h8, hst, List.length_map]
  refine ⟨fun hc => ⟨hc, ?_⟩, fun hc => weak_int ?_⟩
  · obtain ⟨a, ha⟩ := get_some hc
    simp only [atV_map ha, okM_notM (hp a), unm_notM (hp a), true_and]
    refine CallA.pure (h a (List.mem_of_getElem? ha)) ?_
    simp only [go_sem, simprocAttr, ↓reduceIte, h8, hst]
    refine ⟨fun hq => weak_int (idxL_at ha hq hI).symm, fun hq => ⟨hc, int_succ hc hl, ?_⟩⟩
    rw [take_succ_get ha]
    intro b hb
    rcases List.mem_append.1 hb with hb | hb
    · exact hI b hb
    · rw [List.mem_singleton.1 hb]; exact hq
  · rw [idxL_none]
    rwa [List.take_of_length_le hc] at hI
theorem ixProv {α : Type} (enc : α → AV) (hp : ∀ a, NotM (enc a)) (l : List α) (q : α → Bool) (g : FuncId) (caps : List AV) (h : ∀ a ∈ l, PureFn prog W0 g ([enc a] ++ caps) (.bool (q a))) :
    PureFn prog W0 98 [.sl 105 (l.map enc), .fn g caps] (.int .i64 (idxL q l)) := by
  refine fn_pure [4] [] func98 rfl rfl ntmps98 rfl rfl (.int _ _) fun hs σ => ?_
  have hl := (small_map (hs _ (List.mem_cons_self ..))).1
  simp only [go_sem, simprocAttr, ↓reduceIte]
  refine LoopVC.upto [0, 1, 7] (.of (by kernel_rfl)) l.length (fun i A => A.env 8 = .int .i64 i ∧ A.st = σ ∧ ∀ a ∈ l.take i, q a = false) 0 (Nat.zero_le _) ?_ fun i B hi ⟨h8, hst, hI⟩ => ?_
  · simp only [go_sem, simprocAttr, ↓reduceIte]
    all_goals simp
  simp only [go_sem, simprocAttr, ↓reduceIte, h8, hst, List.length_map]
  refine ⟨fun hc => ⟨hc, ?_⟩, fun hc => weak_int ?_⟩
  · obtain ⟨a, ha⟩ := get_some hc
    simp only [atV_map ha, okM_notM (hp a), unm_notM (hp a), true_and]
    refine CallA.pure (h a (List.mem_of_getElem? ha)) ?_
    simp only [go_sem, simprocAttr, ↓reduceIte, h8, hst]
    refine ⟨fun hq => weak_int (idxL_at ha hq hI).symm, fun hq => ⟨hc, int_succ hc hl, ?_⟩⟩
    rw [take_succ_get ha]
    intro b hb
    rcases List.mem_append.1 hb with hb | hb
    · exact hI b hb
    · rw [List.mem_singleton.1 hb]; exact hq
  · rw [idxL_none]
    rwa [List.take_of_length_le hc] at hI
theorem ixLit {α : Type} (enc : α → AV) (hp : ∀ a, NotM (enc a)) (l : List α) (q : α → Bool) (g : FuncId) (caps : List AV) (h : ∀ a ∈ l, PureFn prog W0 g ([enc a] ++ caps) (.bool (q a))) :
    PureFn prog W0 133 [.sl 54 (l.map enc), .fn g caps] (.int .i64 (idxL q l)) := by
  refine fn_pure [4] [] func133 rfl rfl ntmps133 rfl rfl (.int _ _) fun hs σ => ?_
  have hl := (small_map (hs _ (List.mem_cons_self ..))).1
  simp only [go_sem, simprocAttr, ↓reduceIte]
  refine LoopVC.upto [0, 1, 7] (.of (by kernel_rfl)) l.length (fun i A => A.env 8 = .int .i64 i ∧ A.st = σ ∧ ∀ a ∈ l.take i, q a = false) 0 (Nat.zero_le _) ?_ fun i B hi ⟨h8, hst, hI⟩ => ?_
  · simp only [go_sem, simprocAttr, ↓reduceIte]
    all_goals simp
  simp only [go_sem, simprocAttr, ↓reduceIte, h8, hst, List.length_map]
  refine ⟨fun hc => ⟨hc, ?_⟩, fun hc => weak_int ?_⟩
  · obtain ⟨a, ha⟩ := get_some hc
    simp only [atV_map ha, okM_notM (hp a), unm_notM (hp a), true_and]
    refine CallA.pure (h a (List.mem_of_getElem? ha)) ?_
    simp only [go_sem, simprocAttr, ↓reduceIte, h8, hst]
    refine ⟨fun hq => weak_int (idxL_at ha hq hI).symm, fun hq => ⟨hc, int_succ hc hl, ?_⟩⟩
    rw [take_succ_get ha]
    intro b hb
    rcases List.mem_append.1 hb with hb | hb
    · exact hI b hb
    · rw [List.mem_singleton.1 hb]; exact hq
  · rw [idxL_none]
    rwa [List.take_of_length_le hc] at hI
theorem ixLits {α : Type} (enc : α → AV) (hp : ∀ a, NotM (enc a)) (l : List α) (q : α → Bool) (g : FuncId) (caps : List AV) (h : ∀ a ∈ l, PureFn prog W0 g ([enc a] ++ caps) (.bool (q a))) :
    PureFn prog W0 144 [.sl 84 (l.map enc), .fn g caps] (.int .i64 (idxL q l)) := by
  refine fn_pure [4] [] func144 rfl rfl ntmps144 rfl rfl (.int _ _) fun hs σ => ?_
  have hl := (small_map (hs _ (List.mem_cons_self ..))).1
  simp only [go_sem, simprocAttr, ↓reduceIte]
  refine LoopVC.upto [0, 1, 7] (.of (by kernel_rfl)) l.length (fun i A => A.env 8 = .int .i64 i ∧ A.st = σ ∧ ∀ a ∈ l.take i, q a = false) 0 (Nat.zero_le _) ?_ fun i B hi ⟨h8, hst, hI⟩ => ?_
  · simp only [go_sem, simprocAttr, ↓reduceIte]
    all_goals simp
  simp only [go_sem, simprocAttr, ↓reduceIte, h8, hst, List.length_map]
  refine ⟨fun hc => ⟨hc, ?_⟩, fun hc => weak_int ?_⟩
  · obtain ⟨a, ha⟩ := get_some hc
    simp only [atV_map ha, okM_notM (hp a), unm_notM (hp a), true_and]
    refine CallA.pure (h a (List.mem_of_getElem? ha)) ?_
    simp only [go_sem, simprocAttr, ↓reduceIte, h8, hst]
    refine ⟨fun hq => weak_int (idxL_at ha hq hI).symm, fun hq => ⟨hc, int_succ hc hl, ?_⟩⟩
    rw [take_succ_get ha]
    intro b hb
    rcases List.mem_append.1 hb with hb | hb
    · exact hI b hb
    · rw [List.mem_singleton.1 hb]; exact hq
  · rw [idxL_none]
    rwa [List.take_of_length_le hc] at hI
theorem ixClause {α : Type} (enc : α → AV) (hp : ∀ a, NotM (enc a)) (l : List α) (q : α → Bool) (g : FuncId) (caps : List AV) (h : ∀ a ∈ l, PureFn prog W0 g ([enc a] ++ caps) (.bool (q a))) :
    PureFn prog W0 152 [.sl 49 (l.map enc), .fn g caps] (.int .i64 (idxL q l)) := by
  refine fn_pure [4] [] func152 rfl rfl ntmps152 rfl rfl (.int _ _) fun hs σ => ?_
  have hl := (small_map (hs _ (List.mem_cons_self ..))).1
  simp only [go_sem, simprocAttr, ↓reduceIte]
  refine LoopVC.upto [0, 1, 7] (.of (by kernel_rfl)) l.length (fun i A => A.env 8 = .int .i64 i ∧ A.st = σ ∧ ∀ a ∈ l.take i, q a = false) 0 (Nat.zero_le _) ?_ fun i B hi ⟨h8, hst, hI⟩ => ?_
  · simp only [go_sem, simprocAttr, ↓reduceIte]
    all_goals simp
  simp only [go_sem, simprocAttr, ↓reduceIte, h8, hst, List.length_map]
  refine ⟨fun hc => ⟨hc, ?_⟩, fun hc => weak_int ?_⟩
  · obtain ⟨a, ha⟩ := get_some hc
    simp only [atV_map ha, okM_notM (hp a), unm_notM (hp a), true_and]
    refine CallA.pure (h a (List.mem_of_getElem? ha)) ?_
    simp only [go_sem, simprocAttr, ↓reduceIte, h8, hst]
    refine ⟨fun hq => weak_int (idxL_at ha hq hI).symm, fun hq => ⟨hc, int_succ hc hl, ?_⟩⟩
    rw [take_succ_get ha]
    intro b hb
    rcases List.mem_append.1 hb with hb | hb
    · exact hI b hb
    · rw [List.mem_singleton.1 hb]; exact hq
  · rw [idxL_none]
    rwa [List.take_of_length_le hc] at hI
end Go.Proofs.Tryz
end
section
namespace Go.Proofs.Tryz
open Go Go.Av
set_option maxRecDepth 10000
set_option linter.unusedSimpArgs false
set_option linter.unusedVariables false
variable {W0 : World}

theorem anAtomC {α : Type} (enc : α → AV) (hp : ∀ a, NotM (enc a)) (l : List α) (q : α → Bool) (g : FuncId) (caps : List AV) (h : ∀ a ∈ l, PureFn prog W0 g ([enc a] ++ caps) (.bool (q a))) :
    PureFn prog W0 47 [.sl 48 (l.map enc), .fn g caps] (.bool (l.any q)) := by
  refine fn_pure [4] [] func47 rfl rfl ntmps47 rfl rfl (.bool _) fun hs σ => ?_
  simp only [go_sem, simprocAttr, ↓reduceIte]
  refine CallA.fn (ixAtomC enc hp l q g caps h) ?_
  simp only [go_sem, simprocAttr, ↓reduceIte]
  exact weak_bool idxL_ge
theorem anAtom {α : Type} (enc : α → AV) (hp : ∀ a, NotM (enc a)) (l : List α) (q : α → Bool) (g : FuncId) (caps : List AV) (h : ∀ a ∈ l, PureFn prog W0 g ([enc a] ++ caps) (.bool (q a))) :
    PureFn prog W0 110 [.sl 48 (l.map enc), .fn g caps] (.bool (l.any q)) := by
  refine fn_pure [4] [] func110 rfl rfl ntmps110 rfl rfl (.bool _) fun hs σ => ?_
  simp only [go_sem, simprocAttr, ↓reduceIte]
  refine CallA.fn (ixAtom enc hp l q g caps h) ?_
  simp only [go_sem, simprocAttr, ↓reduceIte]
  exact weak_bool idxL_ge
theorem anInt {α : Type} (enc : α → AV) (hp : ∀ a, NotM (enc a)) (l : List α) (q : α → Bool) (g : FuncId) (caps : List AV) (h : ∀ a ∈ l, PureFn prog W0 g ([enc a] ++ caps) (.bool (q a))) :
    PureFn prog W0 43 [.sl 3 (l.map enc), .fn g caps] (.bool (l.any q)) := by
  refine fn_pure [4] [] func43 rfl rfl ntmps43 rfl rfl (.bool _) fun hs σ => ?_
  simp only [go_sem, simprocAttr, ↓reduceIte]
  refine CallA.fn (ixInt enc hp l q g caps h) ?_
  simp only [go_sem, simprocAttr, ↓reduceIte]
  exact weak_bool idxL_ge
theorem anPkg {α : Type} (enc : α → AV) (hp : ∀ a, NotM (enc a)) (l : List α) (q : α → Bool) (g : FuncId) (caps : List AV) (h : ∀ a ∈ l, PureFn prog W0 g ([enc a] ++ caps) (.bool (q a))) :
    PureFn prog W0 66 [.sl 38 (l.map enc), .fn g caps] (.bool (l.any q)) := by
  refine fn_pure [4] [] func66 rfl rfl ntmps66 rfl rfl (.bool _) fun hs σ => ?_
  simp only [go_sem, simprocAttr, ↓reduceIte]
  refine CallA.fn (ixPkg enc hp l q g caps h) ?_
  simp only [go_sem, simprocAttr, ↓reduceIte]
  exact weak_bool idxL_ge
theorem anProv {α : Type} (enc : α → AV) (hp : ∀ a, NotM (enc a)) (l : List α) (q : α → Bool) (g : FuncId) (caps : List AV) (h : ∀ a ∈ l, PureFn prog W0 g ([enc a] ++ caps) (.bool (q a))) :
    PureFn prog W0 75 [.sl 105 (l.map enc), .fn g caps] (.bool (l.any q)) := by
  refine fn_pure [4] [] func75 rfl rfl ntmps75 rfl rfl (.bool _) fun hs σ => ?_
  simp only [go_sem, simprocAttr, ↓reduceIte]
  refine CallA.fn (ixProv enc hp l q g caps h) ?_
  simp only [go_sem, simprocAttr, ↓reduceIte]
  exact weak_bool idxL_ge
theorem anLit {α : Type} (enc : α → AV) (hp : ∀ a, NotM (enc a)) (l : List α) (q : α → Bool) (g : FuncId) (caps : List AV) (h : ∀ a ∈ l, PureFn prog W0 g ([enc a] ++ caps) (.bool (q a))) :
    PureFn prog W0 99 [.sl 54 (l.map enc), .fn g caps] (.bool (l.any q)) := by
  refine fn_pure [4] [] func99 rfl rfl ntmps99 rfl rfl (.bool _) fun hs σ => ?_
  simp only [go_sem, simprocAttr, ↓reduceIte]
  refine CallA.fn (ixLit enc hp l q g caps h) ?_
  simp only [go_sem, simprocAttr, ↓reduceIte]
  exact weak_bool idxL_ge
theorem anClause {α : Type} (enc : α → AV) (hp : ∀ a, NotM (enc a)) (l : List α) (q : α → Bool) (g : FuncId) (caps : List AV) (h : ∀ a ∈ l, PureFn prog W0 g ([enc a] ++ caps) (.bool (q a))) :
    PureFn prog W0 129 [.sl 49 (l.map enc), .fn g caps] (.bool (l.any q)) := by
  refine fn_pure [4] [] func129 rfl rfl ntmps129 rfl rfl (.bool _) fun hs σ => ?_
  simp only [go_sem, simprocAttr, ↓reduceIte]
  refine CallA.fn (ixClause enc hp l q g caps h) ?_
  simp only [go_sem, simprocAttr, ↓reduceIte]
  exact weak_bool idxL_ge

theorem ix_str (l : List (List UInt8)) (s : List UInt8) : PureFn prog W0 97 [.sl 9 (l.map .str), .str s] (.int .i64 (idxL (fun x => s == x) l)) := by
  refine fn_pure [4] [] func97 rfl rfl ntmps97 rfl rfl (.int _ _) fun hs σ => ?_
  have hl := (small_map (hs _ (List.mem_cons_self ..))).1
  simp only [go_sem, simprocAttr, ↓reduceIte]
  refine LoopVC.upto [0, 1, 7] (.of (by kernel_rfl)) l.length (fun i A => A.env 8 = .int .i64 i ∧ A.st = σ ∧ ∀ a ∈ l.take i, (s == a) = false) 0 (Nat.zero_le _) ?_ fun i B hi ⟨h8, hst, hI⟩ => ?_
  · simp only [go_sem, simprocAttr, ↓reduceIte]
    all_goals simp
  simp only [go_sem, simprocAttr, ↓reduceIte, h8, hst, List.length_map]
  refine ⟨fun hc => ⟨hc, ?_⟩, fun hc => weak_int ?_⟩
  · obtain ⟨a, ha⟩ := get_some hc
    simp only [atV_map ha]
    simp only [go_sem, simprocAttr, ↓reduceIte, h8, hst]
    refine ⟨fun hq => weak_int (idxL_at (q := fun x => s == x) ha (by simpa using hq) hI).symm, fun hq => ⟨hc, int_succ hc hl, ?_⟩⟩
    rw [take_succ_get ha]
    intro b hb
    rcases List.mem_append.1 hb with hb | hb
    · simpa using hI b hb
    · rw [List.mem_singleton.1 hb]; simpa using hq
  · rw [idxL_none]
    rwa [List.take_of_length_le hc] at hI

theorem an_str (l : List (List UInt8)) (s : List UInt8) : PureFn prog W0 69 [.sl 9 (l.map .str), .str s] (.bool (l.any fun x => s == x)) := by
  refine fn_pure [4] [] func69 rfl rfl ntmps69 rfl rfl (.bool _) fun hs σ => ?_
  simp only [go_sem, simprocAttr, ↓reduceIte]
  refine CallA.fn (ix_str l s) ?_
  simp only [go_sem, simprocAttr, ↓reduceIte]
  exact weak_bool idxL_ge

theorem nanUint (a : Int) : PureFn prog W0 136 [.int .u64 a] (.bool false) := by
  refine fn_pure [2] [] func136 rfl rfl ntmps136 rfl rfl (.bool _) fun hs σ => ?_
  simp only [go_sem, simprocAttr, ↓reduceIte]
  exact weak_bool (by simp)

theorem cmpUint (a b : Int) : PureFn prog W0 106 [.int .u64 a, .int .u64 b] (.int .i64 (sgn a b)) := by
  refine fn_pure [4] [] func106 rfl rfl ntmps106 rfl rfl (.int _ _) fun hs σ => ?_
  simp only [go_sem, simprocAttr, ↓reduceIte]
  refine CallA.fn (nanUint a) ?_
  simp only [go_sem, simprocAttr, ↓reduceIte]
  refine CallA.fn (nanUint b) ?_
  simp only [go_sem, simprocAttr, ↓reduceIte]
  refine ⟨fun h => weak_int (by simp [sgn, h]), fun h => ⟨fun h' => weak_int (by simp [sgn, h']; omega), fun h' => weak_int (by rw [sgn, if_neg (by omega), if_neg (by omega)])⟩⟩
theorem nanLit (a : Int) : PureFn prog W0 137 [.int .i64 a] (.bool false) := by
  refine fn_pure [2] [] func137 rfl rfl ntmps137 rfl rfl (.bool _) fun hs σ => ?_
  simp only [go_sem, simprocAttr, ↓reduceIte]
  exact weak_bool (by simp)

theorem cmpLit (a b : Int) : PureFn prog W0 107 [.int .i64 a, .int .i64 b] (.int .i64 (sgn a b)) := by
  refine fn_pure [4] [] func107 rfl rfl ntmps107 rfl rfl (.int _ _) fun hs σ => ?_
  simp only [go_sem, simprocAttr, ↓reduceIte]
  refine CallA.fn (nanLit a) ?_
  simp only [go_sem, simprocAttr, ↓reduceIte]
  refine CallA.fn (nanLit b) ?_
  simp only [go_sem, simprocAttr, ↓reduceIte]
  refine ⟨fun h => weak_int (by simp [sgn, h]), fun h => ⟨fun h' => weak_int (by simp [sgn, h']; omega), fun h' => weak_int (by rw [sgn, if_neg (by omega), if_neg (by omega)])⟩⟩
theorem nanInt (a : Int) : PureFn prog W0 182 [.int .i64 a] (.bool false) := by
  refine fn_pure [2] [] func182 rfl rfl ntmps182 rfl rfl (.bool _) fun hs σ => ?_
  simp only [go_sem, simprocAttr, ↓reduceIte]
  exact weak_bool (by simp)

theorem cmpInt (a b : Int) : PureFn prog W0 170 [.int .i64 a, .int .i64 b] (.int .i64 (sgn a b)) := by
  refine fn_pure [4] [] func170 rfl rfl ntmps170 rfl rfl (.int _ _) fun hs σ => ?_
  simp only [go_sem, simprocAttr, ↓reduceIte]
  refine CallA.fn (nanInt a) ?_
  simp only [go_sem, simprocAttr, ↓reduceIte]
  refine CallA.fn (nanInt b) ?_
  simp only [go_sem, simprocAttr, ↓reduceIte]
  refine ⟨fun h => weak_int (by simp [sgn, h]), fun h => ⟨fun h' => weak_int (by simp [sgn, h']; omega), fun h' => weak_int (by rw [sgn, if_neg (by omega), if_neg (by omega)])⟩⟩

theorem nan_str (s : List UInt8) : PureFn prog W0 184 [.str s] (.bool false) := by
  refine fn_pure [2] [] func184 rfl rfl ntmps184 rfl rfl (.bool _) fun hs σ => ?_
  simp only [go_sem, simprocAttr, ↓reduceIte]

theorem cmp_str (a b : List UInt8) : PureFn prog W0 172 [.str a, .str b] (.int .i64 (cmpS a b)) := by
  refine fn_pure [4] [] func172 rfl rfl ntmps172 rfl rfl (.int _ _) fun hs σ => ?_
  simp only [go_sem, simprocAttr, ↓reduceIte]
  refine CallA.fn (nan_str a) ?_
  simp only [go_sem, simprocAttr, ↓reduceIte]
  refine CallA.fn (nan_str b) ?_
  simp only [go_sem, simprocAttr, ↓reduceIte]
  refine ⟨fun h => weak_int (by simp [cmpS, h]), fun h => ⟨fun h' => weak_int (by simp at h'; simp [cmpS, h, h'.2]), fun h' => weak_int ?_⟩⟩
  rw [cmpS, h]
  simp at h' ⊢
  rcases h' with h' | h'
  · rw [h] at h'; cases h'
  · exact h'

theorem cmp_or (l : List Int) : PureFn prog W0 105 [.sl 3 (l.map (.int .i64))] (.int .i64 (orL l)) := by
  refine fn_pure [2] [] func105 rfl rfl ntmps105 rfl rfl (.int _ _) fun hs σ => ?_
  have hl := (small_map (hs _ (List.mem_cons_self ..))).1
  simp only [go_sem, simprocAttr, ↓reduceIte]
  refine LoopVC.upto [3, 6, 7] (.of (by kernel_rfl)) l.length (fun i A => A.env 8 = .int .i64 i ∧ A.st = σ ∧ orL (l.drop i) = orL l) 0 (Nat.zero_le _) ?_ fun i B hi ⟨h8, hst, hI⟩ => ?_
  · simp only [go_sem, simprocAttr, ↓reduceIte]
    all_goals simp
  simp only [go_sem, simprocAttr, ↓reduceIte, h8, hst, List.length_map]
  refine ⟨fun hc => ⟨hc, ?_⟩, fun hc => weak_int ?_⟩
  · obtain ⟨a, ha⟩ := get_some hc
    obtain ⟨hlt, hae⟩ := List.getElem?_eq_some_iff.1 ha
    simp only [atV_map ha]
    simp only [go_sem, simprocAttr, ↓reduceIte, h8, hst]
    rw [List.drop_eq_getElem_cons hlt, hae] at hI
    refine ⟨fun hq => weak_int (by rw [← hI, orL, if_pos hq]), fun hq => ⟨hc, int_succ hc hl, ?_⟩⟩
    rw [← hI, orL, if_neg (by simpa using hq)]
  · rw [List.drop_eq_nil_of_le hc] at hI
    exact hI

theorem ba_indexByte (s : List UInt8) (c : UInt8) : PureFn prog W0 186 [.str s, .int .u8 c.toNat] (.int .i64 (firstOf c s)) := by
  refine fn_ext (e := Extern.BytealgIndexByte.indexByte) func186 (by kernel_rfl) (by kernel_rfl) (by kernel_rfl) (by kernel_rfl) fun w C vs hl hv => ?_
  obtain ⟨x, y, rfl⟩ : ∃ x y, vs = [x, y] := by
    match vs, hl with
    | [x, y], _ => exact ⟨x, y, rfl⟩
  obtain ⟨hx, _⟩ := (hv 0 _ x rfl rfl).str_inv
  have hy := (hv 1 _ y rfl rfl).int_inv
  subst hx hy
  refine ⟨_, Lib.run_indexByteString _ _ w, ?_⟩
  have e : Lib.indexByte s (c.toNat : Int).toNat.toUInt8 = firstOf c s := by rw [show (c.toNat : Int).toNat.toUInt8 = c by simp]; exact indexByte_firstOf s c
  rw [show (ByteArray.mk s.toArray).data.toList = s from rfl, e]
  exact .one rfl (.int _ _)

theorem sl_indexByte (s : List UInt8) (c : UInt8) : PureFn prog W0 178 [.str s, .int .u8 c.toNat] (.int .i64 (firstOf c s)) := by
  refine fn_pure [4] [] func178 rfl rfl ntmps178 rfl rfl (.int _ _) fun hs σ => ?_
  simp only [go_sem, simprocAttr, ↓reduceIte]
  refine CallA.fn (ba_indexByte s c) ?_
  simp only [go_sem, simprocAttr, ↓reduceIte]

theorem sl_index (s : List UInt8) (c : UInt8) : PureFn prog W0 167 [.str s, .str [c]] (.int .i64 (firstOf c s)) := by
  refine fn_pure [4] [] func167 rfl rfl ntmps167 rfl rfl (.int _ _) fun hs σ => ?_
  simp only [go_sem, simprocAttr, ↓reduceIte]
  refine ⟨fun h => weak_int (by rw [← h]; simp [firstOf, List.findIdx?_cons]), fun h => CallA.fn (sl_indexByte s c) ?_⟩
  simp only [go_sem, simprocAttr, ↓reduceIte]

theorem st_index (s : List UInt8) (c : UInt8) : PureFn prog W0 168 [.str s, .str [c]] (.int .i64 (firstOf c s)) := by
  refine fn_pure [4] [] func168 rfl rfl ntmps168 rfl rfl (.int _ _) fun hs σ => ?_
  simp only [go_sem, simprocAttr, ↓reduceIte]
  refine CallA.fn (sl_index s c) ?_
  simp only [go_sem, simprocAttr, ↓reduceIte]

theorem st_contains (s : List UInt8) (c : UInt8) : PureFn prog W0 151 [.str s, .str [c]] (.bool (s.contains c)) := by
  refine fn_pure [4] [] func151 rfl rfl ntmps151 rfl rfl (.bool _) fun hs σ => ?_
  simp only [go_sem, simprocAttr, ↓reduceIte]
  refine CallA.fn (st_index s c) ?_
  simp only [go_sem, simprocAttr, ↓reduceIte]
  exact weak_bool (firstOf_ge s c)

theorem sl_cut (s : List UInt8) (c : UInt8) : PureFn prog W0 148 [.str s, .str [c]] (cutAV c s) := by
  refine fn_pure [4, 5, 6] [] func148 rfl rfl ntmps148 rfl rfl (cutAV_ids c s) fun hs σ => ?_
  have hl : s.length ≤ maxLen := small_str (hs _ (by simp))
  simp only [go_sem, simprocAttr, ↓reduceIte]
  refine CallA.fn (sl_index s c) ?_
  simp only [go_sem, simprocAttr, ↓reduceIte]
  refine ⟨fun h => ?_, fun h => ?_⟩
  · obtain ⟨i, hi, hg, hlt⟩ := (firstOf_cases c s).resolve_left (fun e => by rw [e.1] at h; simp at h)
    rw [hi]
    have hw : IntKind.i64.wrap ((i : Int) + 1) = ((i + 1 : Nat) : Int) := wrap_succ hlt hl
    simp only [go_sem, simprocAttr, ↓reduceIte, hw]
    refine ⟨.of (by kernel_rfl), by omega, by omega, ?_⟩
    rw [cutAV, cutA, cutB, hi, if_pos (by omega), if_pos (by omega), Int.toNat_natCast, decide_eq_true (by omega)]
    exact .refl _
  · have h := h
    simp at h
    rw [cutAV, cutA, cutB, if_neg (by omega), if_neg (by omega), decide_eq_false (by omega)]
    exact .refl _

theorem st_cut (s : List UInt8) (c : UInt8) : PureFn prog W0 124 [.str s, .str [c]] (cutAV c s) := by
  refine fn_pure [4, 5, 6] [] func124 rfl rfl ntmps124 rfl rfl (cutAV_ids c s) fun hs σ => ?_
  simp only [go_sem, simprocAttr, ↓reduceIte]
  refine CallA.fn (sl_cut s c) ?_
  simp only [go_sem, simprocAttr, ↓reduceIte, cutAV]

theorem ba_lastIndexByte (s : List UInt8) (c : UInt8) : PureFn prog W0 149 [.str s, .int .u8 c.toNat] (.int .i64 (lastOf c s)) := by
  refine fn_pure [4] [] func149 rfl rfl ntmps149 rfl rfl (.int _ _) fun hs σ => ?_
  have hsl : s.length ≤ 9223372036854775807 := small_str (hs _ (by simp))
  simp only [go_sem, simprocAttr, ↓reduceIte]
  refine LoopVC.falls [0, 1] (.of (by kernel_rfl)) (fun k A => A.env 5 = .int .i64 ((k : Int) - 1) ∧ A.st = σ ∧ k ≤ s.length ∧ lastOf c s = lastTo c s k) s.length ?_ fun k B ⟨h5, hst, hk, hI⟩ => ?_
  · simp only [go_sem, simprocAttr, ↓reduceIte]
    exact ⟨by rw [wrap_in (by omega)], rfl⟩
  simp only [go_sem, simprocAttr, ↓reduceIte, h5, hst]
  refine ⟨fun hc => ?_, fun hc => ?_⟩
  · obtain ⟨k, rfl⟩ : ∃ j, k = j + 1 := ⟨k - 1, by omega⟩
    have e : (((k + 1 : Nat) : Int) - 1) = (k : Int) := by omega
    simp only [go_sem, simprocAttr, ↓reduceIte, e]
    obtain ⟨x, hx⟩ := get_some (show k < s.length by omega)
    simp only [hx, Option.getD_some]
    refine ⟨by omega, fun h => weak_int ?_, fun h => .here k (by omega) ?_⟩
    · rw [hI, lastTo, if_pos (by rw [hx]; congr 1)]
    · simp only [go_sem, simprocAttr, ↓reduceIte, hst]
      refine ⟨by rw [wrap_in (by omega)], by omega, ?_⟩
      rw [hI, lastTo, if_neg (by rw [hx]; simpa using h)]
  · have : k = 0 := by omega
    subst this
    exact weak_int (by rw [hI]; rfl)

theorem st_lastIndexByte (s : List UInt8) (c : UInt8) : PureFn prog W0 125 [.str s, .int .u8 c.toNat] (.int .i64 (lastOf c s)) := by
  refine fn_pure [4] [] func125 rfl rfl ntmps125 rfl rfl (.int _ _) fun hs σ => ?_
  simp only [go_sem, simprocAttr, ↓reduceIte]
  refine CallA.fn (ba_lastIndexByte s c) ?_
  simp only [go_sem, simprocAttr, ↓reduceIte]

theorem st_trimLeftByte (s : List UInt8) (c : UInt8) : PureFn prog W0 188 [.str s, .int .u8 c.toNat] (.str (s.dropWhile (· == c))) := by
  refine fn_pure [4] [] func188 rfl rfl ntmps188 rfl rfl (.str _) fun hs σ => ?_
  simp only [go_sem, simprocAttr, ↓reduceIte]
  refine LoopVC.falls [1] (.of (by kernel_rfl)) (fun k A => ∃ x, A.env 0 = .str x ∧ A.st = σ ∧ k = x.length ∧ x.dropWhile (· == c) = s.dropWhile (· == c)) s.length ⟨s, ?_⟩ fun k B ⟨x, h0, hst, hk, hI⟩ => ?_
  · simp only [go_sem, simprocAttr, ↓reduceIte]
  cases x with
  | nil =>
    simp only [go_sem, simprocAttr, ↓reduceIte, h0, hst]
    exact weak_str hI
  | cons d r =>
    simp only [go_sem, simprocAttr, ↓reduceIte, h0, hst]
    refine ⟨fun h => .here r.length (by simp [hk]) ⟨r, ?_⟩, fun h => weak_str ?_⟩
    · simp only [go_sem, simprocAttr, ↓reduceIte, hst]
      rw [← hI, List.dropWhile_cons, if_pos (by have h := h; simp at h ⊢; exact UInt8.toNat_inj.1 (by omega))]
    · rw [← hI, List.dropWhile_cons, if_neg (by have h := h; simp at h ⊢; intro e; subst e; exact h rfl)]

theorem st_trimLeft (s : List UInt8) (c : UInt8) (hc : c.toNat < 128) : PureFn prog W0 183 [.str s, .str [c]] (.str (s.dropWhile (· == c))) := by
  refine fn_pure [4] [] func183 rfl rfl ntmps183 rfl rfl (.str _) fun hs σ => ?_
  cases s with
  | nil => simp only [go_sem, simprocAttr, ↓reduceIte]; exact .refl _
  | cons d r =>
    have hc' : ((c.toNat : Int) < 128) := by omega
    simp only [go_sem, simprocAttr, ↓reduceIte, hc']
    refine CallA.fn (st_trimLeftByte (d :: r) c) ?_
    simp only [go_sem, simprocAttr, ↓reduceIte]
end Go.Proofs.Tryz
end
section
namespace Go.Av

def rankP (c : UInt8) : Int := if c.toNat = 126 then -1 else if letterC c then c.toNat else c.toNat + 256
/-- A sign's rank at a text's beginning, as the program counts. -/
def rkP : List UInt8 → Int
  | [] => 0
  | c :: _ => if digitC c then 0 else rankP c

theorem letterC_le {c : UInt8} (h : letterC c = true) : 65 ≤ c.toNat ∧ c.toNat ≤ 122 := by
  simp only [letterC, smallC, Bool.or_eq_true, Bool.and_eq_true, decide_eq_true_eq] at h
  omega

theorem rk_ranges (c : UInt8) (h : digitC c = false) : (rk [c] = -1 ∧ rkP [c] = -1 ∧ c.toNat = 126) ∨ (rk [c] = 1 + c.toNat ∧ rkP [c] = c.toNat ∧ 65 ≤ c.toNat ∧ c.toNat ≤ 122) ∨ (rk [c] = 300 + c.toNat ∧ rkP [c] = 256 + c.toNat ∧ True) := by
  simp only [rk, rkP, h, Bool.false_eq_true, if_false, rankC, rankP]
  by_cases h1 : c.toNat = 126
  · left; simp [h1]
  · right
    simp only [h1, if_false]
    cases h2 : letterC c with
    | true => left; simp only [if_true, true_and]; exact letterC_le h2
    | false => right; simp only [Bool.false_eq_true, if_false, true_and, and_true]; omega

theorem rkP_all (a : List UInt8) : (rk a = 0 ∧ rkP a = 0) ∨ ∃ c r, a = c :: r ∧ digitC c = false ∧ rk a = rk [c] ∧ rkP a = rkP [c] := by
  cases a with
  | nil => exact .inl ⟨rfl, rfl⟩
  | cons c r =>
    cases h : digitC c with
    | true => left; simp [rk, rkP, h]
    | false => right; exact ⟨c, r, rfl, h, rfl, rfl⟩

theorem rkP_cmp (a b : List UInt8) : sgn (rkP a) (rkP b) = sgn (rk a) (rk b) := by
  have key : (rkP a < rkP b ↔ rk a < rk b) ∧ (rkP a > rkP b ↔ rk a > rk b) := by
    rcases rkP_all a with ⟨a1, a2⟩ | ⟨c, r, _, hc, a1, a2⟩ <;> rcases rkP_all b with ⟨b1, b2⟩ | ⟨d, r', _, hd, b1, b2⟩
    · rw [a1, a2, b1, b2]; simp
    · rcases rk_ranges d hd with h | h | h <;> rw [a1, a2, b1, b2, h.1, h.2.1] <;> omega
    · rcases rk_ranges c hc with h | h | h <;> rw [a1, a2, b1, b2, h.1, h.2.1] <;> omega
    · have hc8 := c.toNat_lt
      have hd8 := d.toNat_lt
      rcases rk_ranges c hc with h | h | h <;> rcases rk_ranges d hd with h' | h' | h' <;> rw [a1, a2, b1, b2, h.1, h.2.1, h'.1, h'.2.1] <;> omega
  unfold sgn
  simp only [key.1, key.2]

theorem sgn_zero {a b : Int} : sgn a b = 0 ↔ a = b := ⟨sgn_eq, fun h => by rw [h, sgn_self]⟩
theorem rkP_eq (a b : List UInt8) : rkP a = rkP b ↔ rk a = rk b := by rw [← sgn_zero, rkP_cmp, sgn_zero]
theorem rkP_zero (a : List UInt8) : rkP a = 0 ↔ rk a = 0 := rkP_eq a []

theorem skipD_rk {a : List UInt8} (h : rk a = 0) : skipD a = a := by
  cases a with
  | nil => rfl
  | cons c r =>
    cases hd : digitC c with
    | true => simp [skipD, hd]
    | false => exact absurd h (by simp [rk, hd, rankC_ne])

theorem skipD_tail {a : List UInt8} (h : rk a ≠ 0) : skipD a.tail = skipD a := by
  obtain ⟨c, r, rfl, hd⟩ := rk_ne h
  simp [skipD, hd]

/-- Digits at a text's beginning without noughts ahead. -/
def digsP (s : List UInt8) : List UInt8 := (s.takeWhile digitC).dropWhile (· == 48)
def restP (s : List UInt8) : List UInt8 := s.dropWhile digitC

theorem digit48 : digitC 48 = true := by decide

theorem digs_rest (s : List UInt8) : digsP s = (skip0 s).take (runS (skip0 s)) ∧ restP s = (skip0 s).drop (runS (skip0 s)) := by
  have key : ∀ s : List UInt8, s.takeWhile digitC = s.take (runS s) ∧ s.dropWhile digitC = s.drop (runS s) := fun s => by
    induction s with
    | nil => exact ⟨rfl, rfl⟩
    | cons c r ih =>
      cases h : digitC c with
      | true =>
        have e : runS (c :: r) = runS r + 1 := by simp [runS, h]
        rw [e, List.takeWhile_cons, List.dropWhile_cons, if_pos h, if_pos h, List.take_succ_cons, List.drop_succ_cons, ih.1, ih.2]
        exact ⟨rfl, rfl⟩
      | false =>
        have e : runS (c :: r) = 0 := by simp [runS, h]
        rw [e, List.takeWhile_cons, List.dropWhile_cons, h]
        exact ⟨rfl, rfl⟩
  induction s with
  | nil => exact ⟨rfl, rfl⟩
  | cons c r ih =>
    by_cases h0 : c = 48
    · subst h0
      have e1 : skip0 (48 :: r) = skip0 r := by simp [skip0]
      rw [e1, ← ih.1, ← ih.2]
      refine ⟨?_, ?_⟩
      · simp [digsP, digit48]
      · simp [restP, digit48]
    · have e1 : skip0 (c :: r) = c :: r := by simp [skip0, h0]
      rw [e1, ← (key (c :: r)).1, ← (key (c :: r)).2]
      refine ⟨?_, rfl⟩
      unfold digsP
      cases h : digitC c with
      | true => simp [List.takeWhile_cons, h, h0]
      | false => simp [List.takeWhile_cons, h]

theorem runS_len (s : List UInt8) : (s.take (runS s)).length = runS s := by
  rw [List.length_take]
  have := runS_le s
  omega

theorem cmpS_lex : ∀ (a b : List UInt8), a.length = b.length → cmpS a b = lexC a b
  | [], [], _ => rfl
  | [], _ :: _, h => by simp at h
  | _ :: _, [], h => by simp at h
  | x :: a, y :: b, h => by
    have ih := cmpS_lex a b (by simpa using h)
    unfold lexC
    by_cases hxy : x = y
    · subst hxy
      rw [if_pos rfl, ← ih]
      simp [cmpS, Op.bytesLess]
    · rw [if_neg hxy]
      have hne : x.toNat ≠ y.toNat := fun e => hxy (UInt8.toNat_inj.1 e)
      have hb : (x == y) = false := by simpa using hxy
      simp only [cmpS, Op.bytesLess, hb, Bool.false_and, Bool.or_false, List.cons.injEq, hxy, false_and, if_false, decide_eq_true_eq, UInt8.lt_iff_toNat_lt, sgn]
      by_cases hl : x.toNat < y.toNat
      · rw [if_pos hl, if_pos (by omega)]
      · rw [if_neg hl, if_neg (by omega), if_pos (by omega)]

/-- What digits at two texts' beginnings come to. -/
def numC (x y : List UInt8) : Int := if (digsP x).length ≠ (digsP y).length then sgn (digsP x).length (digsP y).length else cmpS (digsP x) (digsP y)

theorem restP_le (s : List UInt8) : (restP s).length ≤ s.length := dropWhile_le s

theorem partV_step {a b : List UInt8} (h : ¬ (a = [] ∧ b = [])) : partV a b = if signsL a b ≠ 0 then signsL a b else if numC (skipD a) (skipD b) ≠ 0 then numC (skipD a) (skipD b) else partV (restP (skipD a)) (restP (skipD b)) := by
  rw [partV, dif_neg h]
  split
  · rfl
  · have ha := digs_rest (skipD a)
    have hb := digs_rest (skipD b)
    have la : (digsP (skipD a)).length = runS (numS a) := by rw [ha.1]; exact runS_len _
    have lb : (digsP (skipD b)).length = runS (numS b) := by rw [hb.1]; exact runS_len _
    have e1 : (numS a).take (runS (numS a)) = digsP (skipD a) := ha.1.symm
    have e2 : (numS b).take (runS (numS b)) = digsP (skipD b) := hb.1.symm
    have e3 : (numS a).drop (runS (numS a)) = restP (skipD a) := ha.2.symm
    have e4 : (numS b).drop (runS (numS b)) = restP (skipD b) := hb.2.symm
    rw [e1, e2, e3, e4, ← la, ← lb]
    by_cases hl : (digsP (skipD a)).length = (digsP (skipD b)).length
    · have e : numC (skipD a) (skipD b) = lexC (digsP (skipD a)) (digsP (skipD b)) := by rw [numC, if_neg (by simp [hl]), cmpS_lex _ _ hl]
      rw [if_neg (by simp [hl]), e]
    · have : sgn ((digsP (skipD a)).length : Int) (digsP (skipD b)).length ≠ 0 := fun e => hl (by have := sgn_eq e; omega)
      have e : numC (skipD a) (skipD b) = sgn ((digsP (skipD a)).length : Int) (digsP (skipD b)).length := by rw [numC, if_pos hl]
      rw [if_pos (by simpa using hl), e, if_pos this]

theorem partV_fall {a b : List UInt8} (h : ¬ (a = [] ∧ b = [])) : (restP (skipD a)).length + (restP (skipD b)).length < a.length + b.length := by
  rw [(digs_rest (skipD a)).2, (digs_rest (skipD b)).2]
  exact partV_lt h

/-- What a version's parts read as. -/
def verPAV : Option (List UInt8 × List UInt8 × List UInt8) → AV
  | none => .tup [.str [], .str [], .str [], .int .i64 3]
  | some (e, u, r) => .tup [.str e, .str u, .str r, .int .i64 0]
theorem verPAV_ids (v : Option (List UInt8 × List UInt8 × List UInt8)) : IdsLt 0 (verPAV v) := by
  cases v <;> refine .tup fun x hx => ?_ <;> simp at hx <;> rcases hx with rfl | rfl | rfl | rfl <;> first | exact .str _ | exact .int _ _

/-- A text has signs that versions have, and such as beside alone. -/
def ofV (beside : List UInt8) (s : List UInt8) : Bool := s.all fun c => digitC c || letterC c || beside.contains c
theorem ofV_rev (s : List UInt8) : ofV [43, 46, 126] s = s.all revCh := by
  unfold ofV
  congr 1
  funext c
  have h : ∀ n : Nat, n < 256 → ((c == (n.toUInt8)) = ((c.toNat : Int) == (n : Int))) := fun n hn => by
    rw [Bool.eq_iff_iff]
    simp only [beq_iff_eq]
    constructor
    · intro e; subst e; simp [Nat.mod_eq_of_lt hn]
    · intro e; apply UInt8.toNat_inj.1; simp [Nat.mod_eq_of_lt hn]; omega
  have h1 := h 43 (by omega)
  have h2 := h 46 (by omega)
  have h3 := h 126 (by omega)
  simp only [List.contains_cons, List.contains_nil, Bool.or_false, revCh]
  rw [show (43 : UInt8) = (43 : Nat).toUInt8 from rfl, show (46 : UInt8) = (46 : Nat).toUInt8 from rfl, show (126 : UInt8) = (126 : Nat).toUInt8 from rfl, h1, h2, h3]
  cases digitC c <;> cases letterC c <;> simp [Bool.or_assoc]
theorem ofV_up (s : List UInt8) : ofV [43, 46, 126, 45, 58] s = s.all upCh := by
  unfold ofV
  congr 1
  funext c
  have h : ∀ n : Nat, n < 256 → ((c == (n.toUInt8)) = ((c.toNat : Int) == (n : Int))) := fun n hn => by
    rw [Bool.eq_iff_iff]
    simp only [beq_iff_eq]
    constructor
    · intro e; subst e; simp [Nat.mod_eq_of_lt hn]
    · intro e; apply UInt8.toNat_inj.1; simp [Nat.mod_eq_of_lt hn]; omega
  have h1 := h 43 (by omega)
  have h2 := h 46 (by omega)
  have h3 := h 126 (by omega)
  have h4 := h 45 (by omega)
  have h5 := h 58 (by omega)
  simp only [List.contains_cons, List.contains_nil, Bool.or_false, upCh]
  rw [show (43 : UInt8) = (43 : Nat).toUInt8 from rfl, show (46 : UInt8) = (46 : Nat).toUInt8 from rfl, show (126 : UInt8) = (126 : Nat).toUInt8 from rfl, show (45 : UInt8) = (45 : Nat).toUInt8 from rfl, show (58 : UInt8) = (58 : Nat).toUInt8 from rfl, h1, h2, h3, h4, h5]
  cases digitC c <;> cases letterC c <;> simp [Bool.or_assoc]

theorem verP_eq (s : List UInt8) : verP s = if s.length = 0 ∨ 48 < s.length then none else
    (let et := if 0 ≤ firstOf 58 s then (s.take (firstOf 58 s).toNat, s.drop ((firstOf 58 s).toNat + 1)) else ([48], s)
     match revP et.2 with
     | none => none
     | some (u, r) => if (decide (1 ≤ et.1.length) && decide (et.1.length ≤ 9) && et.1.all digitC) && ofV [43, 46, 126] r && startsD u && ofV [43, 46, 126, 45, 58] u then some (et.1, u, r) else none) := by
  rw [verP]
  split
  · rfl
  simp only [epochP, ofV_rev, ofV_up]
  by_cases hf : 0 ≤ firstOf 58 s
  · simp only [hf, if_true]
    by_cases he : 1 ≤ (s.take (firstOf 58 s).toNat).length ∧ (s.take (firstOf 58 s).toNat).length ≤ 9 ∧ (s.take (firstOf 58 s).toNat).all digitC = true
    · simp only [he, and_self, if_true, decide_true, Bool.and_self, Bool.true_and]
      cases revP (s.drop ((firstOf 58 s).toNat + 1)) with
      | none => rfl
      | some ur =>
        obtain ⟨u, r⟩ := ur
        simp only [Bool.and_right_comm]
    · rw [if_neg he]
      have hb : (decide (1 ≤ (s.take (firstOf 58 s).toNat).length) && decide ((s.take (firstOf 58 s).toNat).length ≤ 9) && (s.take (firstOf 58 s).toNat).all digitC) = false := by
        cases hx : (decide (1 ≤ (s.take (firstOf 58 s).toNat).length) && decide ((s.take (firstOf 58 s).toNat).length ≤ 9) && (s.take (firstOf 58 s).toNat).all digitC) with
        | false => rfl
        | true =>
          simp only [Bool.and_eq_true, decide_eq_true_eq] at hx
          exact absurd ⟨hx.1.1, hx.1.2, hx.2⟩ he
      simp only [hb, Bool.false_and, Bool.false_eq_true, if_false]
      cases revP (s.drop ((firstOf 58 s).toNat + 1)) with
      | none => rfl
      | some ur => rfl
  · simp only [hf, if_false]
    have hb : (decide (1 ≤ ([48] : List UInt8).length) && decide (([48] : List UInt8).length ≤ 9) && ([48] : List UInt8).all digitC) = true := by decide
    simp only [hb, Bool.true_and]
    cases revP s with
    | none => rfl
    | some ur =>
      obtain ⟨u, r⟩ := ur
      simp only [Bool.and_right_comm]

end Go.Av
end
section
namespace Go.Proofs.Tryz
open Go Go.Av
set_option maxRecDepth 10000
set_option linter.unusedSimpArgs false
set_option linter.unusedVariables false
variable {W0 : World}

theorem ve_rank (s : List UInt8) : PureFn prog W0 169 [.str s] (.int .i64 (rkP s)) := by
  refine fn_pure [2] [] func169 rfl rfl ntmps169 rfl rfl (.int _ _) fun hs σ => ?_
  cases s with
  | nil =>
    simp only [go_sem, simprocAttr, ↓reduceIte]
    refine CallP.fnG (fun h => by simp at h) (r := .bool false) ?_
    simp only [go_sem, simprocAttr, ↓reduceIte]
    exact .refl _
  | cons c r =>
    have h8 := c.toNat_lt
    simp only [go_sem, simprocAttr, ↓reduceIte]
    refine CallP.fnG (fun _ => ve_digit c) ?_
    simp only [go_sem, simprocAttr, ↓reduceIte]
    refine ⟨fun h => weak_int (by simp [rkP, h]), fun h => ⟨fun h' => weak_int ?_, fun h' => CallA.fn (ve_letter c) ?_⟩⟩
    · have : c.toNat = 126 := by omega
      simp [rkP, h, rankP, this]
    simp only [go_sem, simprocAttr, ↓reduceIte]
    have hn : ¬ c.toNat = 126 := by omega
    refine ⟨fun hl => weak_int (by simp [rkP, h, rankP, hn, hl]), fun hl => weak_int ?_⟩
    rw [wrap_in (by omega)]
    simp [rkP, h, rankP, hn, hl]

theorem ve_digits (s : List UInt8) : PureFn prog W0 171 [.str s] (.tup [.str (digsP s), .str (restP s)]) := by
  refine fn_pure [2, 3] [] func171 rfl rfl ntmps171 rfl rfl (.tup (by intro x hx; simp at hx; rcases hx with rfl | rfl <;> exact .str _)) fun hs σ => ?_
  have hsl : s.length ≤ maxLen := small_str (hs _ (by simp))
  simp only [go_sem, simprocAttr, ↓reduceIte]
  refine LoopVC.at [0] (.of (by kernel_rfl)) (fun A => ∃ i : Nat, A.env 4 = .int .i64 i ∧ A.st = σ ∧ i = runS s) ?_ fun B ⟨i, h4, hst, hi⟩ => ?_
  · refine LoopVC.upto [0] (.of (by kernel_rfl)) s.length (fun i A => A.env 4 = .int .i64 i ∧ A.st = σ ∧ ∀ c ∈ s.take i, digitC c = true) 0 (Nat.zero_le _) ?_ fun i B hi ⟨h4, hst, hI⟩ => ?_
    · simp only [go_sem, simprocAttr, ↓reduceIte]
      simp
    simp only [go_sem, simprocAttr, ↓reduceIte, h4, hst]
    refine CallP.fnG (fun _ => ve_digit _) ?_
    simp only [go_sem, simprocAttr, ↓reduceIte, h4, hst]
    refine ⟨fun h => ?_, fun h => ⟨i, rfl, ?_⟩⟩
    · obtain ⟨c, hc, hd⟩ := at_and.1 h
      have hlt := (List.getElem?_eq_some_iff.1 hc).1
      refine ⟨hlt, int_succ hlt hsl, fun d hdm => ?_⟩
      rw [take_succ_get hc] at hdm
      rcases List.mem_append.1 hdm with hdm | hdm
      · exact hI d hdm
      · rw [List.mem_singleton.1 hdm]; exact hd
    · exact (runS_at hi hI (at_and_f.1 h)).symm
  simp only [go_sem, simprocAttr, ↓reduceIte, h4, hst]
  subst hi
  have hle := runS_le s
  refine ⟨.of (by kernel_rfl), ⟨Nat.zero_le _, hle⟩, ?_⟩
  refine CallP.fn (st_trimLeft _ 48 (by decide)) ?_
  simp only [go_sem, simprocAttr, ↓reduceIte, h4, hst]
  refine ⟨hle, ?_⟩
  have key : ∀ s : List UInt8, s.takeWhile digitC = s.take (runS s) ∧ s.dropWhile digitC = s.drop (runS s) := fun s => by
    induction s with
    | nil => exact ⟨rfl, rfl⟩
    | cons c r ih =>
      cases h : digitC c with
      | true =>
        have e : runS (c :: r) = runS r + 1 := by simp [runS, h]
        rw [e, List.takeWhile_cons, List.dropWhile_cons, if_pos h, if_pos h, List.take_succ_cons, List.drop_succ_cons, ih.1, ih.2]
        exact ⟨rfl, rfl⟩
      | false =>
        have e : runS (c :: r) = 0 := by simp [runS, h]
        rw [e, List.takeWhile_cons, List.dropWhile_cons, h]
        exact ⟨rfl, rfl⟩
  rw [digsP, restP, (key s).1, (key s).2]
  exact .refl _

/-- Two texts of which the same has been read, in memory. -/
abbrev sidesO (x y : List UInt8) : Option SObj := some (.cells 180 [.agg 180 [.str x, .str y]])

theorem ve_signs (σ : Store) (id : Nat) (a b : List UInt8) (hid : σ[id]? = some (sidesO a b)) (hal : a.length ≤ maxLen) (hbl : b.length ≤ maxLen) :
    ACall prog W0 153 [.ptr 180 id 0 []] σ fun r σ' => r = .int .i64 (signsL a b) ∧ ∃ x y, σ' = σ.set id (sidesO x y) ∧ (signsL a b = 0 → x = skipD a ∧ y = skipD b) := by
  have hidl : id < σ.length := (List.getElem?_eq_some_iff.1 hid).1
  refine fn_call [2] [] func153 rfl rfl ntmps153 rfl rfl fun hs => ?_
  simp only [go_sem, simprocAttr, ↓reduceIte]
  refine LoopVC.falls [0] (.of (by kernel_rfl)) (fun k A => ∃ x y, A.st = σ.set id (sidesO x y) ∧ k = x.length + y.length ∧ signsL x y = signsL a b ∧ skipD x = skipD a ∧ skipD y = skipD b ∧ x.length ≤ maxLen ∧ y.length ≤ maxLen) (a.length + b.length) ⟨a, b, ?_, rfl, rfl, rfl, rfl, hal, hbl⟩ fun k B ⟨x, y, hst, hk, hI, hx, hy, hxl, hyl⟩ => ?_
  · simp only [go_sem, simprocAttr, ↓reduceIte]
    exact (set_id hid).symm
  simp only [go_sem, simprocAttr, ↓reduceIte, hst, look_set hidl]
  refine ⟨.of (by kernel_rfl), CallP.fn (ve_rank x) ?_⟩
  simp only [go_sem, simprocAttr, ↓reduceIte, hst, look_set hidl]
  refine CallP.fn (ve_rank y) ?_
  simp only [go_sem, simprocAttr, ↓reduceIte, hst, look_set hidl]
  refine ⟨fun h => CallA.fn (cmpInt _ _) ?_, fun h => ⟨fun h0 => EndR.ret ?_, fun h0 => ?_⟩⟩
  · simp only [go_sem, simprocAttr, ↓reduceIte, hst, look_set hidl]
    refine EndR.ret ?_
    simp only [go_sem, simprocAttr, ↓reduceIte, hst]
    have hne : rk x ≠ rk y := fun e => h ((rkP_eq x y).2 e)
    refine ⟨_, .refl _, by simp, by rw [← hI, signsL_ne hne, rkP_cmp], x, y, rfl, fun h0 => ?_⟩
    rw [← hI, signsL_ne hne] at h0
    exact absurd (sgn_eq h0) hne
  · simp only [go_sem, simprocAttr, ↓reduceIte, hst]
    have hx0 := (rkP_zero x).1 h0
    have hy0 : rk y = 0 := by rw [← rkP_zero, ← h]; exact h0
    refine ⟨_, .refl _, by simp, by rw [← hI, signsL_zero hx0 hy0], x, y, rfl, fun _ => ⟨by rw [← hx, skipD_rk hx0], by rw [← hy, skipD_rk hy0]⟩⟩
  · have hx0 : rk x ≠ 0 := fun e => h0 ((rkP_zero x).2 e)
    have hxy : rk x = rk y := (rkP_eq x y).1 h
    have hy0 : rk y ≠ 0 := by rw [← hxy]; exact hx0
    obtain ⟨c, r, rfl, hc⟩ := rk_ne hx0
    obtain ⟨d, r', rfl, hd⟩ := rk_ne hy0
    simp only [go_sem, simprocAttr, ↓reduceIte, hst, look_set hidl, setLook_set hidl]
    refine ⟨.of (by kernel_rfl), .here (r.length + r'.length) (by simp [hk]; omega) ⟨r, r', ?_⟩⟩
    simp only [go_sem, simprocAttr, ↓reduceIte, hst, look_set hidl, setLook_set hidl]
    simp at hxl hyl
    exact ⟨by rw [← hI, signsL_step hx0 hxy]; rfl, by rw [← hx]; exact skipD_tail hx0, by rw [← hy]; exact skipD_tail hy0, by omega, by omega⟩
theorem ve_numbers (σ : Store) (id : Nat) (a b : List UInt8) (hid : σ[id]? = some (sidesO a b)) :
    ACall prog W0 154 [.ptr 180 id 0 []] σ fun r σ' => r = .int .i64 (numC a b) ∧ σ' = σ.set id (sidesO (restP a) (restP b)) := by
  have hidl : id < σ.length := (List.getElem?_eq_some_iff.1 hid).1
  refine fn_call [2] [] func154 rfl rfl ntmps154 rfl rfl fun hs => ?_
  simp only [go_sem, simprocAttr, ↓reduceIte, look_id hid]
  refine CallA.fn (ve_digits a) ?_
  simp only [go_sem, simprocAttr, ↓reduceIte, look_id hid]
  refine CallA.fn (ve_digits b) ?_
  simp only [go_sem, simprocAttr, ↓reduceIte, look_id hid, setLook_id hid, look_set hidl, setLook_set hidl]
  refine ⟨fun h => CallA.fn (cmpInt _ _) ?_, fun h => CallA.fn (cmp_str _ _) ?_⟩
  · simp only [go_sem, simprocAttr, ↓reduceIte]
    refine EndR.ret ?_
    simp only [go_sem, simprocAttr, ↓reduceIte]
    exact ⟨_, .refl _, by simp, by rw [numC, if_pos h]⟩
  · simp only [go_sem, simprocAttr, ↓reduceIte]
    refine EndR.ret ?_
    simp only [go_sem, simprocAttr, ↓reduceIte]
    exact ⟨_, .refl _, by simp, by rw [numC, if_neg (by simpa using h)]⟩

theorem ve_part (a b : List UInt8) : PureFn prog W0 132 [.str a, .str b] (.int .i64 (partV a b)) := by
  refine fn_pure [4] [] func132 rfl rfl ntmps132 rfl rfl (.int _ _) fun hs σ => ?_
  have hal : a.length ≤ maxLen := small_str (hs (.str a) (by simp))
  have hbl : b.length ≤ maxLen := small_str (hs (.str b) (by simp))
  simp only [go_sem, simprocAttr, ↓reduceIte]
  refine LoopVC.falls [5] (.of (by kernel_rfl)) (fun k A => ∃ x y, A.st = σ ++ [sidesO x y] ∧ k = x.length + y.length ∧ partV x y = partV a b ∧ x.length ≤ maxLen ∧ y.length ≤ maxLen) (a.length + b.length) ⟨a, b, ?_, rfl, rfl, hal, hbl⟩ fun k B ⟨x, y, hst, hk, hI, hxl, hyl⟩ => ?_
  · simp only [go_sem, simprocAttr, ↓reduceIte]
  simp only [go_sem, simprocAttr, ↓reduceIte, hst]
  refine ⟨fun h => ?_, fun h => ?_⟩
  case refine_2 =>
    have : x = [] ∧ y = [] := by cases x <;> cases y <;> simp at h ⊢
    exact weak_int (by rw [← hI, partV, dif_pos this])
  have hne : ¬ (x = [] ∧ y = []) := fun ⟨e, e'⟩ => by subst e e'; simp at h
  have hid : (σ ++ [sidesO x y])[σ.length]? = some (sidesO x y) := by simp
  refine CallA.goes (by simp only [go_sem, simprocAttr, ↓reduceIte, hst]) (ve_signs _ σ.length x y hid hxl hyl) fun r σ' ⟨hr, x', y', hσ, hz⟩ => ?_
  subst hr hσ
  simp only [go_sem, simprocAttr, ↓reduceIte, hst]
  refine ⟨fun h1 => weak_int ?_, fun h1 => ?_⟩
  · rw [← hI, partV_step hne, if_pos h1]
  obtain ⟨rfl, rfl⟩ := hz h1
  have hid : (σ ++ [sidesO (skipD x) (skipD y)])[σ.length]? = some (sidesO (skipD x) (skipD y)) := by simp
  refine CallA.goes (by simp only [go_sem, simprocAttr, ↓reduceIte]) (ve_numbers _ σ.length _ _ hid) fun r σ' ⟨hr, hσ⟩ => ?_
  subst hr hσ
  simp only [go_sem, simprocAttr, ↓reduceIte, hst]
  have l1 := restP_le (skipD x)
  have l2 := restP_le (skipD y)
  have l3 := dropWhile_le (p := fun c => !digitC c) x
  have l4 := dropWhile_le (p := fun c => !digitC c) y
  refine ⟨fun h2 => weak_int ?_, fun h2 => .here ((restP (skipD x)).length + (restP (skipD y)).length) (by rw [hk]; exact partV_fall hne) ⟨restP (skipD x), restP (skipD y), ?_⟩⟩
  · rw [← hI, partV_step hne, if_neg (by simp [h1]), if_pos h2]
  · simp only [go_sem, simprocAttr, ↓reduceIte]
    unfold skipD at *
    exact ⟨by rw [← hI, partV_step hne, if_neg (by simp [h1]), if_neg (by unfold skipD; simp [h2])]; rfl, by omega, by omega⟩

theorem ve_of (beside s : List UInt8) (hbs : ∀ c ∈ beside, c.toNat ≤ 126) : PureFn prog W0 127 [.str s, .str beside] (.bool (ofV beside s)) := by
  refine fn_pure [4] [] func127 rfl rfl ntmps127 rfl rfl (.bool _) fun hs σ => ?_
  simp only [go_sem, simprocAttr, ↓reduceIte]
  refine LoopVC.falls [1, 8] (.of (by kernel_rfl)) (fun k A => ∃ pos, A.st = σ ++ [some (.iter s pos)] ∧ k = s.length - pos ∧ pos ≤ s.length ∧ ofV beside (s.take pos) = true) s.length ⟨0, ?_⟩ fun k B ⟨pos, hst, hk, hp, hI⟩ => ?_
  · simp only [go_sem, simprocAttr, ↓reduceIte]
    simp [ofV]
  simp only [go_sem, simprocAttr, ↓reduceIte, hst]
  refine ⟨fun hlt => ?_, fun hge => ?_⟩
  · obtain ⟨c, hc⟩ := get_some hlt
    have bad : (digitC c || letterC c || beside.contains c) = false → ofV beside s = false := fun hd => by
      unfold ofV; exact all_false hc hd
    rcases Nat.lt_or_ge c.toNat 128 with h8 | h8
    · rw [decAt_ascii hc h8]
      have hcv := u8_wrap c
      have hce := encL_ascii h8
      simp only [go_sem, simprocAttr, ↓reduceIte, hcv, hce]
      refine CallP.fnG (fun _ => ve_digit c) ?_
      simp only [go_sem, simprocAttr, ↓reduceIte, hcv, hce]
      refine CallP.fnG (fun _ => ve_letter c) ?_
      simp only [go_sem, simprocAttr, ↓reduceIte, hcv, hce]
      refine CallP.fnG (fun _ => st_contains beside c) ?_
      simp only [go_sem, simprocAttr, ↓reduceIte, hcv, hce]
      refine ⟨fun hb => weak_bool ?_, fun hb => .here (s.length - (pos + 1)) (by omega) ⟨pos + 1, ?_⟩⟩
      · refine (bad ?_).symm
        simp only [Bool.or_eq_true, decide_eq_true_eq, Bool.and_eq_true, Bool.not_eq_true'] at hb
        rcases hb with hb | ⟨⟨h1, h2⟩, h3⟩
        · have h1 : digitC c = false := by simp [digitC]; omega
          have h2 : letterC c = false := by simp [letterC, smallC]; omega
          have h3 : beside.contains c = false := by
            cases hx : beside.contains c with
            | false => rfl
            | true => have := hbs c (by simpa using hx); omega
          simp only [h1, h2, h3, Bool.or_false]
        · simp only [h1, h2, h3, Bool.or_false]
      · simp only [go_sem, simprocAttr, ↓reduceIte, hst]
        refine ⟨by omega, all_take hI hc ?_⟩
        simp at hb
        have hb2 := hb.2
        cases hd : digitC c <;> cases hl : letterC c <;> cases hx : beside.contains c <;> simp_all
    · have := decAt_big hc h8
      have hd : decide ((126 : Int) < ((decAt s pos).1 : Int)) = true := decide_eq_true (by omega)
      simp only [go_sem, simprocAttr, ↓reduceIte, hd]
      refine CallP.fnG (fun h => by simp at h) (r := .bool false) ?_
      simp only [go_sem, simprocAttr, ↓reduceIte, hd]
      refine CallP.fnG (fun h => by simp at h) (r := .bool false) ?_
      simp only [go_sem, simprocAttr, ↓reduceIte, hd]
      refine CallP.fnG (fun h => by simp at h) (r := .bool false) ?_
      simp only [go_sem, simprocAttr, ↓reduceIte, hd]
      refine weak_bool (bad ?_).symm
      have h1 : digitC c = false := by simp [digitC]; omega
      have h2 : letterC c = false := by simp [letterC, smallC]; omega
      have h3 : beside.contains c = false := by
        cases hx : beside.contains c with
        | false => rfl
        | true => have := hbs c (by simpa using hx); omega
      simp only [h1, h2, h3, Bool.or_false]
  · have : pos = s.length := by omega
    rw [this, List.take_length] at hI
    exact weak_bool hI.symm

theorem ve_parse (s : List UInt8) : PureFn prog W0 90 [.str s] (verPAV (verP s)) := by
  refine fn_pure [2, 3, 4, 5] [] func90 rfl rfl ntmps90 rfl rfl (verPAV_ids _) fun hs σ => ?_
  have hsl : s.length ≤ maxLen := small_str (hs _ (by simp))
  have none_end : verP s = none → Weak (AV.tup [.str [], .str [], .str [], .int .i64 3]) (verPAV (verP s)) := fun e => by rw [e]; exact .refl _
  simp only [go_sem, simprocAttr, ↓reduceIte]
  refine ⟨fun h => none_end ?_, fun h => ?_⟩
  · have h' : s.length = 0 ∨ 48 < s.length := by
      simp only [Bool.or_eq_true, beq_iff_eq, decide_eq_true_eq] at h
      rcases h with h | h
      · left; rw [h]; rfl
      · right; omega
    rw [verP, if_pos h']
  have hlen : ¬ (s.length = 0 ∨ 48 < s.length) := by
    simp only [Bool.or_eq_false_iff, beq_eq_false_iff_ne, decide_eq_false_iff_not] at h
    rintro (h1 | h1)
    · exact h.1 (List.length_eq_zero_iff.1 h1)
    · exact h.2 (by omega)
  refine CallA.fn (st_cut s 58) ?_
  simp only [go_sem, simprocAttr, ↓reduceIte, cutAV]
  have hv : ∀ e t : List UInt8, (e, t) = (if 0 ≤ firstOf 58 s then (s.take (firstOf 58 s).toNat, s.drop ((firstOf 58 s).toNat + 1)) else ([48], s)) → verP s = (match revP t with
     | none => none
     | some (u, r) => if (decide (1 ≤ e.length) && decide (e.length ≤ 9) && e.all digitC) && ofV [43, 46, 126] r && startsD u && ofV [43, 46, 126, 45, 58] u then some (e, u, r) else none) := fun e t he => by
    rw [verP_eq, if_neg hlen, ← he]
    rfl
  refine JoinVC.at [4] (by kernel_rfl) (fun A => ∃ e t, A.env 2 = .str e ∧ A.env 6 = .str t ∧ A.st = σ ∧ t.length ≤ s.length ∧ (e, t) = (if 0 ≤ firstOf 58 s then (s.take (firstOf 58 s).toNat, s.drop ((firstOf 58 s).toNat + 1)) else ([48], s))) (fun hf => ?_) (fun hf => ?_) fun B ⟨e, t, h2, h6, hst, htl, het⟩ => ?_
  · have hf : 0 ≤ firstOf 58 s := by simpa using hf
    simp only [go_sem, simprocAttr, ↓reduceIte]
    exact ⟨_, _, rfl, rfl, by rw [cutB, if_pos hf]; simp, by rw [cutA, cutB, if_pos hf, if_pos hf, if_pos hf]⟩
  · have hf : ¬ 0 ≤ firstOf 58 s := by simpa using hf
    simp only [go_sem, simprocAttr, ↓reduceIte]
    exact ⟨_, _, rfl, rfl, Nat.le_refl _, by rw [if_neg hf]⟩
  have hv := hv e t het
  simp only [go_sem, simprocAttr, ↓reduceIte, h2, h6, hst]
  refine CallA.fn (st_lastIndexByte t 45) ?_
  simp only [go_sem, simprocAttr, ↓reduceIte, h2, h6, hst]
  refine JoinVC.at [] (by kernel_rfl) (fun A => ∃ u r, revP t = some (u, r) ∧ A.env 2 = .str e ∧ A.env 3 = .str u ∧ A.env 4 = .str r ∧ A.st = σ) (fun hf => ?_) (fun hf => ?_) fun B ⟨u, r, hrv, h2, h3, h4, hst⟩ => ?_
  · obtain ⟨i, hi, hgi, hlt⟩ := (lastOf_cases 45 t).resolve_left (fun e => by rw [e.1] at hf; simp at hf)
    rw [hi]
    have hw : IntKind.i64.wrap ((i : Int) + 1) = ((i + 1 : Nat) : Int) := wrap_succ hlt (by omega)
    have hrv : revP t = if t.drop (i + 1) = [] then none else some (t.take i, t.drop (i + 1)) := by
      rw [revP, hi, if_pos (by omega)]; rfl
    simp only [go_sem, simprocAttr, ↓reduceIte, hw, h2, h6, hst]
    refine ⟨.of (by kernel_rfl), by omega, by omega, fun hb => none_end (by rw [hv]; simp only [hrv, if_pos hb]), fun hb => ⟨t.take i, t.drop (i + 1), ?_⟩⟩
    rw [hrv, if_neg hb]
    simp
  · have hf' : ¬ (0 ≤ lastOf 45 t) := by simpa using hf
    simp only [go_sem, simprocAttr, ↓reduceIte, h2, h6, hst]
    exact ⟨t, [], by simp [revP, hf']⟩
  rw [hrv] at hv
  simp only at hv
  simp only [go_sem, simprocAttr, ↓reduceIte, h2, h3, h4, hst]
  refine CallA.fn (ve_epochOf e) ?_
  simp only [go_sem, simprocAttr, ↓reduceIte, h2, h3, h4, hst]
  refine CallP.fnG (fun _ => ve_of [43, 46, 126] r (by decide)) ?_
  simp only [go_sem, simprocAttr, ↓reduceIte, h2, h3, h4, hst]
  have fin : ∀ b : Bool, b = (!((decide (1 ≤ e.length) && decide (e.length ≤ 9) && e.all digitC) && ofV [43, 46, 126] r && startsD u && ofV [43, 46, 126, 45, 58] u)) → (b = true → verP s = none) ∧ (b = false → verP s = some (e, u, r)) := fun b hb => by
    rw [hv]
    refine ⟨fun h => if_neg ?_, fun h => if_pos ?_⟩
    · rw [h] at hb
      intro hc
      rw [hc] at hb
      cases hb
    · rw [h] at hb
      cases hc : (decide (1 ≤ e.length) && decide (e.length ≤ 9) && e.all digitC) && ofV [43, 46, 126] r && startsD u && ofV [43, 46, 126, 45, 58] u with
      | true => rfl
      | false => rw [hc] at hb; cases hb
  cases u with
  | nil =>
    simp only [go_sem, simprocAttr, ↓reduceIte, h2, h3, h4, hst]
    refine CallP.fnG (fun h => by simp at h) (r := .bool false) ?_
    simp only [go_sem, simprocAttr, ↓reduceIte, h2, h3, h4, hst]
    refine CallP.fnG (fun h => by simp at h) (r := .bool false) ?_
    simp only [go_sem, simprocAttr, ↓reduceIte, h2, h3, h4, hst]
    exact none_end ((fin true (by simp [startsD])).1 rfl)
  | cons c u' =>
    simp only [go_sem, simprocAttr, ↓reduceIte, h2, h3, h4, hst]
    refine CallP.fnG (fun _ => ve_digit c) ?_
    simp only [go_sem, simprocAttr, ↓reduceIte, h2, h3, h4, hst]
    refine CallP.fnG (fun _ => ve_of [43, 46, 126, 45, 58] (c :: u') (by decide)) ?_
    simp only [go_sem, simprocAttr, ↓reduceIte, h2, h3, h4, hst]
    refine ⟨fun h => none_end ((fin _ ?_).1 h), fun h => ?_⟩
    · simp only [startsD]
      cases (decide (1 ≤ e.length) && decide (e.length ≤ 9) && e.all digitC) <;> cases ofV [43, 46, 126] r <;> cases digitC c <;> cases ofV [43, 46, 126, 45, 58] (c :: u') <;> rfl
    · rw [(fin _ (by
        simp only [startsD]
        cases (decide (1 ≤ e.length) && decide (e.length ≤ 9) && e.all digitC) <;> cases ofV [43, 46, 126] r <;> cases digitC c <;> cases ofV [43, 46, 126, 45, 58] (c :: u') <;> rfl)).2 h]
      exact .refl _
end Go.Proofs.Tryz
end
section
namespace Go.Proofs.Tryz
open Go Go.Av
set_option maxRecDepth 10000
set_option linter.unusedSimpArgs false
set_option linter.unusedVariables false
variable {W0 : World}

def cmpAV (a b : List UInt8) : AV := .tup [.int .i64 (cmpVer a b), .bool (isVer a && isVer b)]
theorem cmpAV_ids (a b : List UInt8) : IdsLt 0 (cmpAV a b) := by
  refine .tup fun x hx => ?_
  simp at hx
  rcases hx with rfl | rfl
  · exact .int _ _
  · exact .bool _

theorem ve_compare (a b : List UInt8) : PureFn prog W0 96 [.str a, .str b] (cmpAV a b) := by
  refine fn_pure [4, 5] [] func96 rfl rfl ntmps96 rfl rfl (cmpAV_ids _ _) fun hs σ => ?_
  simp only [go_sem, simprocAttr, ↓reduceIte]
  refine CallA.fn (ve_parse a) ?_
  cases h : verP a with
  | none =>
    simp only [go_sem, simprocAttr, ↓reduceIte, verPAV]
    refine CallA.fn (ve_parse b) ?_
    cases h' : verP b with
    | none => simp only [go_sem, simprocAttr, ↓reduceIte, verPAV]; simp only [cmpAV, cmpVer, isVer, h, h']; exact .refl _
    | some v => obtain ⟨f, v, t⟩ := v; simp only [go_sem, simprocAttr, ↓reduceIte, verPAV]; simp only [cmpAV, cmpVer, isVer, h, h']; exact .refl _
  | some v =>
    obtain ⟨e, u, r⟩ := v
    simp only [go_sem, simprocAttr, ↓reduceIte, verPAV]
    refine CallA.fn (ve_parse b) ?_
    cases h' : verP b with
    | none => simp only [go_sem, simprocAttr, ↓reduceIte, verPAV]; simp only [cmpAV, cmpVer, isVer, h, h']; exact .refl _
    | some v =>
      obtain ⟨f, v, t⟩ := v
      simp only [go_sem, simprocAttr, ↓reduceIte, verPAV]
      refine CallA.fn (ve_part e f) ?_
      simp only [go_sem, simprocAttr, ↓reduceIte]
      refine CallA.fn (ve_part u v) ?_
      simp only [go_sem, simprocAttr, ↓reduceIte]
      refine CallA.fn (ve_part r t) ?_
      simp only [go_sem, simprocAttr, ↓reduceIte]
      refine ⟨by decide, CallA.fn ((cmp_or [partV e f, partV u v, partV r t]).weak (.cons (.lit _ _) .nil)) ?_⟩
      simp only [go_sem, simprocAttr, ↓reduceIte]
      have : orL [partV e f, partV u v, partV r t] = cmpVer a b := by
        simp only [cmpVer, h, h', orL]
        by_cases h1 : partV e f = 0
        · by_cases h2 : partV u v = 0
          · by_cases h3 : partV r t = 0
            · simp [h1, h2, h3]
            · simp [h1, h2, h3]
          · simp [h1, h2]
        · simp [h1]
      rw [this, cmpAV]
      simp only [isVer, h, h']
      exact .refl _

theorem ve_same (a b : List UInt8) : PureFn prog W0 68 [.str a, .str b] (.bool (sameVer a b)) := by
  refine fn_pure [4] [] func68 rfl rfl ntmps68 rfl rfl (.bool _) fun hs σ => ?_
  simp only [go_sem, simprocAttr, ↓reduceIte]
  refine CallA.fn (ve_compare a b) ?_
  simp only [go_sem, simprocAttr, ↓reduceIte, cmpAV]
  exact weak_bool (by rw [sameVer])

theorem ve_holds (rel : Int) (a b : List UInt8) : PureFn prog W0 74 [.int .i64 rel, .str a, .str b] (.bool (holdsV rel a b)) := by
  refine fn_pure [6] [] func74 rfl rfl ntmps74 rfl rfl (.bool _) fun hs σ => ?_
  simp only [go_sem, simprocAttr, ↓reduceIte]
  refine ⟨fun h0 => CallA.fn (ve_parse a) ?_, fun h0 => CallA.fn (ve_compare a b) ?_⟩
  · cases h : verP a with
    | none => simp only [go_sem, simprocAttr, ↓reduceIte, verPAV]; exact weak_bool (by rw [holdsV, if_pos h0, isVer, h]; rfl)
    | some v => obtain ⟨e, u, r⟩ := v; simp only [go_sem, simprocAttr, ↓reduceIte, verPAV]; exact weak_bool (by rw [holdsV, if_pos h0, isVer, h]; rfl)
  simp only [go_sem, simprocAttr, ↓reduceIte, cmpAV]
  refine ⟨fun hb => weak_bool (by rw [holdsV, if_neg h0, hb]; rfl), fun hb => ?_⟩
  have hh : holdsV rel a b = (if rel = 1 then decide (cmpVer a b < 0) else if rel = 2 then decide (cmpVer a b ≤ 0) else if rel = 3 then cmpVer a b == 0
     else if rel = 4 then decide (0 ≤ cmpVer a b) else if rel = 5 then decide (0 < cmpVer a b) else false) := by rw [holdsV, if_neg h0, if_pos hb]
  refine ⟨fun h1 => weak_bool (by rw [hh, if_pos h1]), fun h1 => ⟨fun h2 => weak_bool (by rw [hh, if_neg h1, if_pos h2]), fun h2 => ⟨fun h3 => weak_bool (by rw [hh, if_neg h1, if_neg h2, if_pos h3]), fun h3 => ⟨fun h4 => weak_bool (by rw [hh, if_neg h1, if_neg h2, if_neg h3, if_pos h4]), fun h4 => ⟨fun h5 => weak_bool (by rw [hh, if_neg h1, if_neg h2, if_neg h3, if_neg h4, if_pos h5]), fun h5 => weak_bool (by rw [hh, if_neg h1, if_neg h2, if_neg h3, if_neg h4, if_neg h5])⟩⟩⟩⟩⟩

theorem tx_name (s : List UInt8) : PureFn prog W0 91 [.str s] (.bool (nameOk s)) := by
  refine fn_pure [2] [] func91 rfl rfl ntmps91 rfl rfl (.bool _) fun hs σ => ?_
  have hsl : s.length ≤ maxLen := small_str (hs _ (by simp))
  simp only [go_sem, simprocAttr, ↓reduceIte]
  refine ⟨fun h => weak_bool ?_, fun h => ?_⟩
  · have : (decide (2 ≤ s.length) && decide (s.length ≤ 24)) = false := by
      simp only [Bool.or_eq_true, decide_eq_true_eq] at h
      simp only [Bool.and_eq_false_iff, decide_eq_false_iff_not]
      omega
    rw [nameOk, this]; rfl
  have hlen : (decide (2 ≤ s.length) && decide (s.length ≤ 24)) = true := by
    simp only [Bool.or_eq_false_iff, decide_eq_false_iff_not] at h
    simp only [Bool.and_eq_true, decide_eq_true_eq]
    omega
  refine LoopVC.falls [15] (.of (by kernel_rfl)) (fun k A => ∃ pos, A.st = σ ++ [some (.iter s pos)] ∧ k = s.length - pos ∧ pos ≤ s.length ∧ ∀ j c, j < pos → s[j]? = some c → nameCh j c = true) s.length ⟨0, ?_⟩ fun k B ⟨pos, hst, hk, hp, hI⟩ => ?_
  · simp only [go_sem, simprocAttr, ↓reduceIte]
    simp
  simp only [go_sem, simprocAttr, ↓reduceIte, hst]
  refine ⟨fun hlt => ?_, fun hge => ?_⟩
  · obtain ⟨c, hc⟩ := get_some hlt
    have bad : nameCh pos c = false → nameOk s = false := fun hd => by
      rw [nameOk, allIdxB_false hc hd, Bool.and_false]
    rcases Nat.lt_or_ge c.toNat 128 with h8 | h8
    · rw [decAt_ascii hc h8]
      simp only [go_sem, simprocAttr, ↓reduceIte]
      refine ⟨fun hb => weak_bool ?_, fun hb => .here (s.length - (pos + 1)) (by omega) ⟨pos + 1, ?_⟩⟩
      · refine (bad ?_).symm
        revert hb
        simp only [nameCh, smallC, digitC]
        simp
        omega
      · simp only [go_sem, simprocAttr, ↓reduceIte, hst]
        refine ⟨by omega, fun j d hj hd => ?_⟩
        rcases Nat.lt_succ_iff_lt_or_eq.1 hj with hj | rfl
        · exact hI j d hj hd
        · have e : d = c := by rw [hd] at hc; exact Option.some.inj hc
          subst e
          revert hb
          simp only [nameCh, smallC, digitC]
          simp
          omega
    · have := decAt_big hc h8
      refine ⟨fun hb => weak_bool (bad ?_).symm, fun hb => ?_⟩
      · simp only [nameCh, smallC, digitC]
        simp
        omega
      · simp at hb
        omega
  · have : pos = s.length := by omega
    have : allIdxB nameCh 0 s = true := allIdxB_iff.2 fun j c hj => by rw [Nat.zero_add]; exact hI j c (by have := (List.getElem?_eq_some_iff.1 hj).1; omega) hj
    exact weak_bool (by rw [nameOk, this, hlen]; rfl)

theorem rl_mayAtom (a : Atom) : PureFn prog W0 73 [atomAV a] (.bool (mayAtom a)) := by
  refine fn_pure [2] [1] func73 rfl rfl ntmps73 rfl rfl (.bool _) fun hs σ => ?_
  simp only [go_sem, simprocAttr, ↓reduceIte, atomAV]
  refine CallA.fn (tx_name a.name) ?_
  simp only [go_sem, simprocAttr, ↓reduceIte, atomAV]
  have low : (!nameOk a.name || decide (a.rel < 0) || decide (5 < a.rel)) = true → mayAtom a = false := fun h => by
    unfold mayAtom
    cases hn : nameOk a.name with
    | false => rfl
    | true =>
      rw [hn] at h
      simp only [Bool.not_true, Bool.false_or, Bool.or_eq_true, decide_eq_true_eq] at h
      rw [if_neg (by omega)]
      have : (decide (1 ≤ a.rel) && decide (a.rel ≤ 5)) = false := by
        simp only [Bool.and_eq_false_iff, decide_eq_false_iff_not]; omega
      rw [this]; rfl
  have high : (!nameOk a.name || decide (a.rel < 0) || decide (5 < a.rel)) = false → mayAtom a = if a.rel = 0 then a.ver == [] else isVer a.ver := fun h => by
    simp only [Bool.or_eq_false_iff, Bool.not_eq_false', decide_eq_false_iff_not] at h
    rw [mayAtom, h.1.1, Bool.true_and]
    split
    · rfl
    · have h1 : decide (1 ≤ a.rel) = true := decide_eq_true (by omega)
      have h2 : decide (a.rel ≤ 5) = true := decide_eq_true (by omega)
      rw [h1, h2]; rfl
  refine ⟨fun h => weak_bool (low h).symm, fun h => ⟨fun h0 => weak_bool (by rw [high h, if_pos h0]), fun h0 => CallA.fn (ve_parse a.ver) ?_⟩⟩
  have hm := high h
  rw [if_neg h0] at hm
  cases h : verP a.ver with
  | none => simp only [go_sem, simprocAttr, ↓reduceIte, verPAV]; exact weak_bool (by rw [hm, isVer, h]; rfl)
  | some v => obtain ⟨e, u, r⟩ := v; simp only [go_sem, simprocAttr, ↓reduceIte, verPAV]; exact weak_bool (by rw [hm, isVer, h]; rfl)
end Go.Proofs.Tryz
end
section
namespace Go.Av

/-- A list that a call has built since the store was σ. -/
structure Built (σ st : Store) (v : AV) (e : TypeId) (xs : List AV) : Prop where
  bld : Bld st v e xs
  ext : Ext σ st
  tok : ∀ t, tokOf v = some t → σ.length ≤ t

theorem Built.nil {σ st : Store} (h : Ext σ st) (e : TypeId) : Built σ st .nils e [] := ⟨.inl ⟨rfl, rfl⟩, h, fun t h => by cases h⟩

theorem Built.app {σ st st' : Store} {v v' : AV} {e : TypeId} {xs zs : List AV} (h : Built σ st v e xs) (ha : App st v e zs v' st') : Built σ st' v' e zs := by
  have hl := h.ext.le
  refine ⟨ha.bld, ?_, fun t ht => ?_⟩
  · have hl' := ha.len
    refine List.ext_getElem? fun i => ?_
    rw [List.getElem?_take]
    by_cases hi : i < σ.length
    · rw [if_pos hi, ha.old i (by omega) (fun e => by have := h.tok i e; omega)]
      have e := congrArg (·[i]?) h.ext
      simpa [List.getElem?_take, hi] using e
    · rw [if_neg hi, List.getElem?_eq_none (by omega)]
  · rcases ha.tok with e | ⟨u, e, hu⟩
    · exact h.tok t (by rw [← e]; exact ht)
    · rw [e] at ht; cases ht; omega

theorem Built.more {σ st : Store} {v : AV} {e : TypeId} {xs : List AV} (h : Built σ st v e xs) (l : Store) : Built σ (st ++ l) v e xs := by
  refine ⟨?_, h.ext.app l, h.tok⟩
  rcases h.bld with h1 | h1 | ⟨t, h1, h2⟩
  · exact .inl h1
  · exact .inr (.inl h1)
  · exact .inr (.inr ⟨t, h1, by rw [List.getElem?_append_left ((List.getElem?_eq_some_iff.1 h2).1)]; exact h2⟩)

theorem Built.weak {σ st : Store} {v : AV} {e : TypeId} {xs : List AV} (h : Built σ st v e xs) : Weak v (.sl e xs) := by
  rcases h.bld with ⟨rfl, rfl⟩ | rfl | ⟨t, rfl, _⟩
  · exact .nils _
  · exact .lit _ _
  · exact .own _ _ _

theorem Ext.eq {σ st : Store} (h : Ext σ st) : st = σ ++ st.drop σ.length := by
  have := List.take_append_drop σ.length st
  rw [h] at this
  exact this.symm
theorem Ext.trans {σ st st' : Store} (h : Ext σ st) (h' : Ext st st') : Ext σ st' := by
  rw [h'.eq]; exact h.app _
theorem Built.on {σ st st' : Store} {v : AV} {e : TypeId} {xs : List AV} (h : Built σ st v e xs) (h' : Ext st st') : Built σ st' v e xs := by
  rw [h'.eq]; exact h.more _
theorem Built.len {σ st : Store} {v : AV} {e : TypeId} {xs : List AV} (h : Built σ st v e xs) : lenV v = .int .i64 xs.length := by
  rcases h.bld with ⟨rfl, rfl⟩ | rfl | ⟨t, rfl, _⟩ <;> rfl
theorem Built.lenC {σ st : Store} {v : AV} {e : TypeId} {xs : List AV} (h : Built σ st v e xs) (P : Program) (t : TypeId) : lenC P t v = ((elT P t).isSome = true) := by
  rcases h.bld with ⟨rfl, rfl⟩ | rfl | ⟨t, rfl, _⟩ <;> rfl
theorem Built.notM {σ st : Store} {v : AV} {e : TypeId} {xs : List AV} (h : Built σ st v e xs) : NotM v := by
  rcases h.bld with ⟨rfl, rfl⟩ | rfl | ⟨t, rfl, _⟩ <;> trivial
theorem Built.ok {σ st : Store} {v : AV} {e : TypeId} {xs : List AV} (h : Built σ st v e xs) (g : Option Bool) : okM g v = True := okM_notM h.notM
theorem Built.un {σ st : Store} {v : AV} {e : TypeId} {xs : List AV} (h : Built σ st v e xs) : unm v = v := unm_notM h.notM
attribute [go_sem] List.range'_succ List.range'_zero

theorem Sub.slmap {α : Type} {f g : α → AV} {e : TypeId} (l : List α) (h : ∀ a ∈ l, Sub (f a) (g a)) : Sub (.sl e (l.map f)) (.sl e (l.map g)) := by
  refine .sls (by simp) fun i x y hx hy => ?_
  rw [List.getElem?_map, Option.map_eq_some_iff] at hx hy
  obtain ⟨a, ha, rfl⟩ := hx
  obtain ⟨b, hb, rfl⟩ := hy
  rw [ha] at hb
  cases hb
  exact h a (List.mem_of_getElem? ha)

theorem ReadL.sl (st : Store) (e : TypeId) (ys : List AV) : ReadL st (.sl e ys) e ys := .inl rfl
theorem ReadL.lit (st : Store) (e : TypeId) (ys : List AV) : ReadL st (.lit e ys) e ys := .inl rfl

/-- What holds behind a loop that ends its block. -/
theorem LoopVC.ats {P : Program} {W0 : World} {n : Nat} {fz : List Nat} {A : AState} {c : Code} {id : Nat} {Q : Exit → AState → Prop} (ks : List Nat) (hks : Kept fz c .mk ks) (R : AState → Prop) (h : LoopVC P W0 n fz c .mk (blockQ id (thenQ R Q)) .mk A) (hR : ∀ B, R B → Q .normal (keep ks A B)) : LoopVC P W0 n fz c .mk (blockQ id Q) .mk A := by
  have e : blockQ id (thenQ (Q .normal) Q) = blockQ id Q := by
    funext e A
    cases e <;> rfl
  rw [← e]
  exact .at ks hks R h hR

/-- More than twelve clauses, or more than six alternatives: 12; an empty clause, or one with a wrong atom: 3. -/
def mayCl (l : List Clause) : Int :=
  if 12 < l.length ∨ l.any (fun c => decide (6 < c.length)) = true then 12 else if l.any (fun c => decide (c.length = 0) || c.any fun a => !mayAtom a) = true then 3 else 0
def single (l : List Atom) : List Clause := l.map fun a => [a]
def provAtom (p : Prov) : Atom := ⟨p.name, if p.ver = [] then 0 else 3, p.ver⟩
/-- May it be a package? 0: it may. -/
def mayPkg (p : Pkg) : Int := if (!nameOk p.name || !isVer p.ver) = true then 3 else orL [mayCl p.pre, mayCl p.dep, mayCl p.rcm, mayCl (single p.con), mayCl (single p.brk), mayCl (single (p.prov.map provAtom))]

/-- The names, each once, in the order in which they come. -/
def namesL : List Pkg → List (List UInt8) → List (List UInt8)
  | [], acc => acc
  | p :: r, acc => namesL r (if acc.any (fun x => p.name == x) then acc else acc ++ [p.name])
def sameNV (p q : Pkg) : Bool := q.name == p.name && sameVer q.ver p.ver
/-- One that stands already, behind those. -/
def dupL : List Pkg → List Pkg → Bool
  | _, [] => false
  | bef, p :: r => bef.any (sameNV p) || dupL (bef ++ [p]) r
def mayAll (l : List Pkg) : Int :=
  if 24 < l.length then 12 else if orL (l.map mayPkg) ≠ 0 then orL (l.map mayPkg) else if dupL [] l = true then 4 else if 10 < (namesL l []).length then 12 else 0

end Go.Av
end
section
namespace Go.Proofs.Tryz
open Go Go.Av
set_option maxRecDepth 10000
set_option linter.unusedSimpArgs false
set_option linter.unusedVariables false
variable {W0 : World}

def clause1 (a : Atom) : AV := .lit 48 [atomAV a]
theorem NotM.atom (a : Atom) : NotM (atomAV a) := trivial
theorem NotM.atoms (l : List Atom) : NotM (atomsAV l) := trivial
@[go_sem] theorem okM_atomsAV (g : Option Bool) (l : List Atom) : okM g (atomsAV l) = True := eq_true trivial
@[go_sem] theorem unm_atomsAV (l : List Atom) : unm (atomsAV l) = atomsAV l := rfl
@[go_sem] theorem fitsB_atomsAV (P : Program) (t : TypeId) (l : List Atom) : fitsB P t (atomsAV l) = prim P t := rfl
@[go_sem] theorem okM_clausesAV (g : Option Bool) (l : List Clause) : okM g (clausesAV l) = True := eq_true trivial
@[go_sem] theorem unm_clausesAV (l : List Clause) : unm (clausesAV l) = clausesAV l := rfl
@[go_sem] theorem fitsB_clausesAV (P : Program) (t : TypeId) (l : List Clause) : fitsB P t (clausesAV l) = prim P t := rfl
@[go_sem] theorem okM_provsAV (g : Option Bool) (l : List Prov) : okM g (provsAV l) = True := eq_true trivial
@[go_sem] theorem unm_provsAV (l : List Prov) : unm (provsAV l) = provsAV l := rfl
@[go_sem] theorem fitsB_provsAV (P : Program) (t : TypeId) (l : List Prov) : fitsB P t (provsAV l) = prim P t := rfl
@[go_sem] theorem okM_pkgsAV (g : Option Bool) (l : List Pkg) : okM g (pkgsAV l) = True := eq_true trivial
@[go_sem] theorem unm_pkgsAV (l : List Pkg) : unm (pkgsAV l) = pkgsAV l := rfl
@[go_sem] theorem fitsB_pkgsAV (P : Program) (t : TypeId) (l : List Pkg) : fitsB P t (pkgsAV l) = prim P t := rfl
theorem clauses_single (l : List Atom) : Sub (.sl 49 (l.map clause1)) (clausesAV (single l)) := by
  rw [clausesAV, single, List.map_map]
  exact .slmap l fun a _ => .lit _ _

theorem ids_map {α : Type} {f : α → AV} {e : TypeId} (h : ∀ a, IdsLt 0 (f a)) (l : List α) : IdsLt 0 (.sl e (l.map f)) := .sl fun x hx => by
  obtain ⟨a, _, rfl⟩ := List.mem_map.1 hx
  exact h a
theorem ids_atom (a : Atom) : IdsLt 0 (atomAV a) := .agg fun x hx => by
  simp at hx
  rcases hx with rfl | rfl | rfl
  · exact .str _
  · exact .int _ _
  · exact .str _
theorem ids_atoms (l : List Atom) : IdsLt 0 (atomsAV l) := ids_map ids_atom l
theorem ids_clauses (l : List Clause) : IdsLt 0 (clausesAV l) := ids_map ids_atoms l
theorem ids_prov (a : Prov) : IdsLt 0 (provAV a) := .agg fun x hx => by
  simp at hx
  rcases hx with rfl | rfl <;> exact .str _
theorem ids_provs (l : List Prov) : IdsLt 0 (provsAV l) := ids_map ids_prov l
theorem ids_pkg (p : Pkg) : IdsLt 0 (pkgAV p) := .agg fun x hx => by
  simp at hx
  rcases hx with rfl | rfl | rfl | rfl | rfl | rfl | rfl | rfl | rfl
  · exact .str _
  · exact .str _
  · exact ids_clauses _
  · exact ids_clauses _
  · exact ids_clauses _
  · exact ids_atoms _
  · exact ids_atoms _
  · exact ids_provs _
  · exact .bool _
theorem ids_pkgs (l : List Pkg) : IdsLt 0 (pkgsAV l) := ids_map ids_pkg l

theorem re_singles (l : List Atom) (hl : l.length ≤ 1048576) : PureFn prog W0 92 [atomsAV l] (clausesAV (single l)) := by
  refine fn_pure [2] [5] func92 rfl rfl ntmps92 rfl rfl (ids_clauses _) fun hs σ => ?_
  simp only [go_sem, simprocAttr, ↓reduceIte, atomsAV]
  refine LoopVC.at [6, 7] (.of (by kernel_rfl)) (fun A => ∃ v, A.env 3 = v ∧ Built σ A.st v 49 (l.map clause1)) ?_ fun B ⟨v, h3, hb⟩ => ?_
  · refine LoopVC.upto [6, 7] (.of (by kernel_rfl)) l.length (fun i A => ∃ v, A.env 3 = v ∧ A.env 8 = .int .i64 i ∧ Built σ A.st v 49 ((l.take i).map clause1)) 0 (Nat.zero_le _) ?_ fun i B hi ⟨v, h3, h8, hb⟩ => ?_
    · simp only [go_sem, simprocAttr, ↓reduceIte]
      exact ⟨_, rfl, Built.nil (.refl _) _⟩
    simp only [go_sem, simprocAttr, ↓reduceIte, h3, h8, hb.ok, hb.un, List.length_map]
    refine ⟨fun hc => ⟨hc, ?_⟩, fun hc => ?_⟩
    · obtain ⟨a, ha⟩ := get_some hc
      simp only [atV_map ha]
      simp only [go_sem, simprocAttr, ↓reduceIte, atomAV, h3, h8, hb.ok, hb.un]
      refine AppA.own 1048576 (by kernel_rfl) (hb.more _).bld (.lit _ _ _) (by simp; omega) fun v' σ' ha' => ?_
      have hb' := (hb.more _).app ha'
      simp only [go_sem, simprocAttr, ↓reduceIte, h3, h8, hb.ok, hb.un, hb'.ok, hb'.un]
      refine ⟨hc, _, rfl, int_succ hc (by rw [maxLen_eq]; omega), ?_⟩
      rw [take_succ_get ha, List.map_append]
      exact hb'
    · rw [List.take_of_length_le hc] at hb
      exact ⟨_, rfl, hb⟩
  simp only [go_sem, simprocAttr, ↓reduceIte, h3, hb.ok, hb.un]
  exact ⟨hb.weak.trans (.sub (clauses_single l)), hb.ext⟩
theorem r4_singles (l : List Atom) (hl : l.length ≤ 1048576) : PureFn prog W0 35 [atomsAV l] (clausesAV (single l)) := by
  refine fn_pure [2] [5] func35 rfl rfl ntmps35 rfl rfl (ids_clauses _) fun hs σ => ?_
  simp only [go_sem, simprocAttr, ↓reduceIte, atomsAV]
  refine LoopVC.at [6, 7] (.of (by kernel_rfl)) (fun A => ∃ v, A.env 3 = v ∧ Built σ A.st v 49 (l.map clause1)) ?_ fun B ⟨v, h3, hb⟩ => ?_
  · refine LoopVC.upto [6, 7] (.of (by kernel_rfl)) l.length (fun i A => ∃ v, A.env 3 = v ∧ A.env 8 = .int .i64 i ∧ Built σ A.st v 49 ((l.take i).map clause1)) 0 (Nat.zero_le _) ?_ fun i B hi ⟨v, h3, h8, hb⟩ => ?_
    · simp only [go_sem, simprocAttr, ↓reduceIte]
      exact ⟨_, rfl, Built.nil (.refl _) _⟩
    simp only [go_sem, simprocAttr, ↓reduceIte, h3, h8, hb.ok, hb.un, List.length_map]
    refine ⟨fun hc => ⟨hc, ?_⟩, fun hc => ?_⟩
    · obtain ⟨a, ha⟩ := get_some hc
      simp only [atV_map ha]
      simp only [go_sem, simprocAttr, ↓reduceIte, atomAV, h3, h8, hb.ok, hb.un]
      refine AppA.own 1048576 (by kernel_rfl) (hb.more _).bld (.lit _ _ _) (by simp; omega) fun v' σ' ha' => ?_
      have hb' := (hb.more _).app ha'
      simp only [go_sem, simprocAttr, ↓reduceIte, h3, h8, hb.ok, hb.un, hb'.ok, hb'.un]
      refine ⟨hc, _, rfl, int_succ hc (by rw [maxLen_eq]; omega), ?_⟩
      rw [take_succ_get ha, List.map_append]
      exact hb'
    · rw [List.take_of_length_le hc] at hb
      exact ⟨_, rfl, hb⟩
  simp only [go_sem, simprocAttr, ↓reduceIte, h3, hb.ok, hb.un]
  exact ⟨hb.weak.trans (.sub (clauses_single l)), hb.ext⟩

theorem atoms_map (l : List Atom) : Sub (.sl 48 (l.map atomAV)) (atomsAV l) := .refl _
theorem re_provided (l : List Prov) (hl : l.length ≤ 1048576) : PureFn prog W0 93 [provsAV l] (clausesAV (single (l.map provAtom))) := by
  refine fn_pure [2] [5] func93 rfl rfl ntmps93 rfl rfl (ids_clauses _) fun hs σ => ?_
  simp only [go_sem, simprocAttr, ↓reduceIte, provsAV]
  refine LoopVC.at [7, 8] (.of (by kernel_rfl)) (fun A => ∃ v, A.env 3 = v ∧ Built σ A.st v 49 (l.map fun p => clause1 (provAtom p))) ?_ fun B ⟨v, h3, hb⟩ => ?_
  · refine LoopVC.upto [7, 8] (.of (by kernel_rfl)) l.length (fun i A => ∃ v, A.env 3 = v ∧ A.env 9 = .int .i64 i ∧ Built σ A.st v 49 ((l.take i).map fun p => clause1 (provAtom p))) 0 (Nat.zero_le _) ?_ fun i B hi ⟨v, h3, h8, hb⟩ => ?_
    · simp only [go_sem, simprocAttr, ↓reduceIte]
      exact ⟨_, rfl, Built.nil (.refl _) _⟩
    simp only [go_sem, simprocAttr, ↓reduceIte, h3, h8, hb.ok, hb.un, List.length_map]
    refine ⟨fun hc => ⟨hc, ?_⟩, fun hc => ?_⟩
    · obtain ⟨a, ha⟩ := get_some hc
      simp only [atV_map ha]
      simp only [go_sem, simprocAttr, ↓reduceIte, provAV, h3, h8, hb.ok, hb.un]
      refine JoinVC.at [3, 6, 7, 8, 9] (by kernel_rfl) (fun A => A.st = B.st ++ [none, some (.cells 48 [atomAV (provAtom a)])]) (fun h => ?_) (fun h => ?_) fun A hst => ?_
      · simp only [go_sem, simprocAttr, ↓reduceIte, atomAV, provAtom]
        simp only [Bool.not_eq_true', beq_eq_false_iff_ne] at h
        rw [if_neg h]
      · simp only [go_sem, simprocAttr, ↓reduceIte, atomAV, provAtom]
        simp only [Bool.not_eq_false', beq_iff_eq] at h
        rw [if_pos h]
      have hb2 : Built σ A.st v 49 ((l.take i).map fun p => clause1 (provAtom p)) := by rw [hst]; exact hb.more _
      simp only [go_sem, simprocAttr, ↓reduceIte, h3, h8, hst, hb.ok, hb.un, atomAV]
      refine AppA.own 1048576 (by kernel_rfl) hb2.bld (.lit _ _ _) (by simp; omega) fun v' σ' ha' => ?_
      have hb' := hb2.app ha'
      simp only [go_sem, simprocAttr, ↓reduceIte, h3, h8, hb.ok, hb.un, hb'.ok, hb'.un]
      refine ⟨hc, _, rfl, int_succ hc (by rw [maxLen_eq]; omega), ?_⟩
      rw [take_succ_get ha, List.map_append]
      exact hb'
    · rw [List.take_of_length_le hc] at hb
      exact ⟨_, rfl, hb⟩
  simp only [go_sem, simprocAttr, ↓reduceIte, h3, hb.ok, hb.un]
  refine ⟨hb.weak.trans (.sub ?_), hb.ext⟩
  have := clauses_single (l.map provAtom)
  rw [List.map_map] at this
  exact this
theorem r4_provided (l : List Prov) (hl : l.length ≤ 1048576) : PureFn prog W0 37 [provsAV l] (atomsAV (l.map provAtom)) := by
  refine fn_pure [2] [5] func37 rfl rfl ntmps37 rfl rfl (ids_atoms _) fun hs σ => ?_
  simp only [go_sem, simprocAttr, ↓reduceIte, provsAV]
  refine LoopVC.at [7, 8] (.of (by kernel_rfl)) (fun A => ∃ v, A.env 3 = v ∧ Built σ A.st v 48 (l.map fun p => atomAV (provAtom p))) ?_ fun B ⟨v, h3, hb⟩ => ?_
  · refine LoopVC.upto [7, 8] (.of (by kernel_rfl)) l.length (fun i A => ∃ v, A.env 3 = v ∧ A.env 9 = .int .i64 i ∧ Built σ A.st v 48 ((l.take i).map fun p => atomAV (provAtom p))) 0 (Nat.zero_le _) ?_ fun i B hi ⟨v, h3, h8, hb⟩ => ?_
    · simp only [go_sem, simprocAttr, ↓reduceIte]
      exact ⟨_, rfl, Built.nil (.refl _) _⟩
    simp only [go_sem, simprocAttr, ↓reduceIte, h3, h8, hb.ok, hb.un, List.length_map]
    refine ⟨fun hc => ⟨hc, ?_⟩, fun hc => ?_⟩
    · obtain ⟨a, ha⟩ := get_some hc
      simp only [atV_map ha]
      simp only [go_sem, simprocAttr, ↓reduceIte, provAV, h3, h8, hb.ok, hb.un]
      refine JoinVC.at [3, 6, 7, 8, 9] (by kernel_rfl) (fun A => A.st = B.st ++ [none, some (.cells 48 [atomAV (provAtom a)])]) (fun h => ?_) (fun h => ?_) fun A hst => ?_
      · simp only [go_sem, simprocAttr, ↓reduceIte, atomAV, provAtom]
        simp only [Bool.not_eq_true', beq_eq_false_iff_ne] at h
        rw [if_neg h]
      · simp only [go_sem, simprocAttr, ↓reduceIte, atomAV, provAtom]
        simp only [Bool.not_eq_false', beq_iff_eq] at h
        rw [if_pos h]
      have hb2 : Built σ A.st v 48 ((l.take i).map fun p => atomAV (provAtom p)) := by rw [hst]; exact hb.more _
      simp only [go_sem, simprocAttr, ↓reduceIte, h3, h8, hst, hb.ok, hb.un, atomAV]
      refine AppA.own 1048576 (by kernel_rfl) hb2.bld (.lit _ _ _) (by simp; omega) fun v' σ' ha' => ?_
      have hb' := hb2.app ha'
      simp only [go_sem, simprocAttr, ↓reduceIte, h3, h8, hb.ok, hb.un, hb'.ok, hb'.un]
      refine ⟨hc, _, rfl, int_succ hc (by rw [maxLen_eq]; omega), ?_⟩
      rw [take_succ_get ha, List.map_append]
      exact hb'
    · rw [List.take_of_length_le hc] at hb
      exact ⟨_, rfl, hb⟩
  simp only [go_sem, simprocAttr, ↓reduceIte, h3, hb.ok, hb.un]
  refine ⟨hb.weak.trans (.sub ?_), hb.ext⟩
  have := atoms_map (l.map provAtom)
  rw [List.map_map] at this
  exact this


theorem lenN {α : Type} (l : List α) (n : Nat) : (((n : Nat) : Int) < (l.length : Int)) ↔ n < l.length := by omega
theorem re_long (c : Clause) : PureFn prog W0 130 [atomsAV c] (.bool (decide (6 < c.length))) := by
  refine fn_pure [2] [] func130 rfl rfl ntmps130 rfl rfl (.bool _) fun hs σ => ?_
  simp only [go_sem, simprocAttr, ↓reduceIte, atomsAV, List.length_map]
  exact weak_bool (decide_eq_decide.2 (lenN c 6))
theorem re_wrong (a : Atom) : PureFn prog W0 131 [atomAV a] (.bool (!mayAtom a)) := by
  refine fn_pure [2] [1] func131 rfl rfl ntmps131 rfl rfl (.bool _) fun hs σ => ?_
  simp only [go_sem, simprocAttr, ↓reduceIte, atomAV]
  refine CallA.fn (rl_mayAtom a) ?_
  simp only [go_sem, simprocAttr, ↓reduceIte]
  done

theorem re_mayCl (l : List Clause) : PureFn prog W0 94 [clausesAV l] (.int .i64 (mayCl l)) := by
  refine fn_pure [2] [] func94 rfl rfl ntmps94 rfl rfl (.int _ _) fun hs σ => ?_
  have hl := (small_map (hs _ (List.mem_cons_self ..))).1
  simp only [go_sem, simprocAttr, ↓reduceIte, clausesAV, List.length_map]
  refine CallP.fnG (fun _ => anClause atomsAV NotM.atoms l (fun c => decide (6 < c.length)) _ [] (fun a _ => re_long a)) ?_
  simp only [go_sem, simprocAttr, ↓reduceIte]
  have e : (decide ((12 : Int) < l.length) || l.any fun c => decide (6 < c.length)) = decide (12 < l.length ∨ (l.any fun c => decide (6 < c.length)) = true) := by
    rw [Bool.decide_or, Bool.decide_eq_true]; congr 1; exact decide_eq_decide.2 (lenN l 12)
  rw [e]
  refine ⟨fun h => weak_int (by rw [mayCl, if_pos (of_decide_eq_true h)]), fun h => ?_⟩
  have hm : mayCl l = if l.any (fun c => decide (c.length = 0) || c.any fun a => !mayAtom a) = true then 3 else 0 := by rw [mayCl, if_neg (of_decide_eq_false h)]
  refine LoopVC.upto [12, 13] (.of (by kernel_rfl)) l.length (fun i A => A.env 14 = .int .i64 i ∧ A.st = σ ∧ ∀ c ∈ l.take i, (decide (c.length = 0) || c.any fun a => !mayAtom a) = false) 0 (Nat.zero_le _) ?_ fun i B hi ⟨h8, hst, hI⟩ => ?_
  · simp only [go_sem, simprocAttr, ↓reduceIte]
    simp
  simp only [go_sem, simprocAttr, ↓reduceIte, h8, hst, List.length_map]
  refine ⟨fun hc => ⟨hc, ?_⟩, fun hc => ?_⟩
  · obtain ⟨a, ha⟩ := get_some hc
    simp only [atV_map ha]
    simp only [go_sem, simprocAttr, ↓reduceIte, atomsAV, h8, hst, List.length_map]
    refine CallP.fnG (fun _ => anAtomC atomAV NotM.atom a (fun c => !mayAtom c) _ [] (fun a _ => re_wrong a)) ?_
    simp only [go_sem, simprocAttr, ↓reduceIte, h8, hst]
    have e : ((a.length : Int) == 0) = decide (a.length = 0) := by rw [Bool.eq_iff_iff]; simp
    simp only [e]
    refine ⟨fun hb => weak_int ?_, fun hb => ⟨hc, int_succ hc hl, ?_⟩⟩
    · rw [hm, if_pos (any_true ha hb)]
    · rw [take_succ_get ha]
      intro c hcm
      rcases List.mem_append.1 hcm with hcm | hcm
      · exact hI c hcm
      · rw [List.mem_singleton.1 hcm]; exact hb
  · refine weak_int ?_
    rw [List.take_of_length_le hc] at hI
    rw [hm, if_neg]
    intro h
    obtain ⟨c, hc1, hc2⟩ := List.any_eq_true.1 h
    rw [hI c hc1] at hc2
    cases hc2
end Go.Proofs.Tryz
end
section
namespace Go.Proofs.Tryz
open Go Go.Av
set_option maxRecDepth 10000
set_option linter.unusedSimpArgs false
set_option linter.unusedVariables false
variable {W0 : World}

theorem r9_mayCl (l : List Clause) : PureFn prog W0 39 [clausesAV l] (.int .i64 (mayCl l)) := by
  refine fn_pure [2] [8] func39 rfl rfl ntmps39 rfl rfl (.int _ _) fun hs σ => ?_
  have hl := (small_map (hs _ (List.mem_cons_self ..))).1
  have hls := (small_map (hs _ (List.mem_cons_self ..))).2
  simp only [go_sem, simprocAttr, ↓reduceIte, clausesAV, List.length_map]
  refine ⟨fun h => weak_int (by rw [mayCl, if_pos (.inl ((lenN l 12).1 (by simpa using h)))]), fun h => ?_⟩
  have h12 : ¬ 12 < l.length := fun e => by have := (lenN l 12).2 e; omega
  refine LoopVC.at [0] (.of (by kernel_rfl)) (fun A => A.st = σ ∧ (l.any fun c => decide (6 < c.length)) = false) ?_ fun B ⟨hst, h6⟩ => ?_
  · refine LoopVC.upto [0, 12, 13] (.of (by kernel_rfl)) l.length (fun i A => A.env 14 = .int .i64 i ∧ A.st = σ ∧ ∀ c ∈ l.take i, c.length ≤ 6) 0 (Nat.zero_le _) ?_ fun i B hi ⟨h8, hst, hI⟩ => ?_
    · simp only [go_sem, simprocAttr, ↓reduceIte]
      simp
    simp only [go_sem, simprocAttr, ↓reduceIte, h8, hst, List.length_map]
    refine ⟨fun hc => ⟨hc, ?_⟩, fun hc => ?_⟩
    · obtain ⟨a, ha⟩ := get_some hc
      simp only [atV_map ha]
      simp only [go_sem, simprocAttr, ↓reduceIte, atomsAV, h8, hst, List.length_map]
      refine ⟨fun hb => weak_int ?_, fun hb => ⟨hc, int_succ hc hl, ?_⟩⟩
      · rw [mayCl, if_pos (.inr (any_true ha (decide_eq_true ((lenN a 6).1 (by simpa using hb)))))]
      · rw [take_succ_get ha]
        intro c hcm
        rcases List.mem_append.1 hcm with hcm | hcm
        · exact hI c hcm
        · rw [List.mem_singleton.1 hcm]; omega
    · rw [List.take_of_length_le hc] at hI
      rw [List.any_eq_false]
      exact fun c hcm => by have := hI c hcm; simp; omega
  have hm : mayCl l = if l.any (fun c => decide (c.length = 0) || c.any fun a => !mayAtom a) = true then 3 else 0 := by rw [mayCl, if_neg (by rw [h6]; simp; omega)]
  simp only [go_sem, simprocAttr, ↓reduceIte, hst]
  refine LoopVC.upto [22, 23] (.of (by kernel_rfl)) l.length (fun i A => A.env 24 = .int .i64 i ∧ Ext σ A.st ∧ ∀ c ∈ l.take i, (decide (c.length = 0) || c.any fun a => !mayAtom a) = false) 0 (Nat.zero_le _) ?_ fun i B hi ⟨h8, hst, hI⟩ => ?_
  · simp only [go_sem, simprocAttr, ↓reduceIte]
    simp [hst, Ext.refl]
  simp only [go_sem, simprocAttr, ↓reduceIte, h8, List.length_map]
  refine ⟨fun hc => ⟨hc, ?_⟩, fun hc => ⟨weak_int ?_, hst⟩⟩
  · obtain ⟨c, hcc⟩ := get_some hc
    simp only [atV_map hcc]
    have hcl : c.length ≤ maxLen := (small_map (hls c (List.mem_of_getElem? hcc))).1
    simp only [go_sem, simprocAttr, ↓reduceIte, atomsAV, h8, List.length_map]
    refine ⟨fun h0 => ⟨weak_int ?_, hst⟩, fun h0 => ?_⟩
    · have : c.length = 0 := by omega
      rw [hm, if_pos (any_true hcc (by simp [this]))]
    refine LoopVC.ats [22, 23, 24] (.of (by kernel_rfl)) (fun A => Ext σ A.st ∧ (c.any fun a => !mayAtom a) = false) ?_ fun B ⟨hst, h6⟩ => ?_
    · refine LoopVC.upto [22, 23, 24, 31, 32] (.of (by kernel_rfl)) c.length (fun i A => A.env 33 = .int .i64 i ∧ Ext σ A.st ∧ ∀ a ∈ c.take i, mayAtom a = true) 0 (Nat.zero_le _) ?_ fun j B hj ⟨h33, hst, hJ⟩ => ?_
      · simp only [go_sem, simprocAttr, ↓reduceIte]
        simp [hst]
      simp only [go_sem, simprocAttr, ↓reduceIte, h33, List.length_map]
      refine ⟨fun hc' => ⟨hc', ?_⟩, fun hc' => ?_⟩
      · obtain ⟨a, ha⟩ := get_some hc'
        simp only [atV_map ha]
        simp only [go_sem, simprocAttr, ↓reduceIte, atomAV, h33]
        refine CallA.fn (r4_mayAtom a) ?_
        simp only [go_sem, simprocAttr, ↓reduceIte, h33]
        refine ⟨fun hb => ⟨weak_int ?_, hst.app _⟩, fun hb => ⟨hc', int_succ hc' hcl, hst.app _, ?_⟩⟩
        · rw [hm, if_pos (any_true hcc (by rw [any_true ha (by rw [hb]; rfl), Bool.or_true]))]
        · rw [take_succ_get ha]
          intro x hxm
          rcases List.mem_append.1 hxm with hxm | hxm
          · exact hJ x hxm
          · rw [List.mem_singleton.1 hxm]; exact hb
      · rw [List.take_of_length_le hc'] at hJ
        refine ⟨hst, ?_⟩
        rw [List.any_eq_false]
        exact fun x hxm => by rw [hJ x hxm]; simp
    simp only [go_sem, simprocAttr, ↓reduceIte, h8]
    refine ⟨hc, int_succ hc hl, hst, ?_⟩
    rw [take_succ_get hcc]
    intro x hxm
    rcases List.mem_append.1 hxm with hxm | hxm
    · exact hI x hxm
    · rw [List.mem_singleton.1 hxm, h6, Bool.or_false]; exact decide_eq_false (by omega)
  · rw [List.take_of_length_le hc] at hI
    rw [hm, if_neg]
    intro h
    obtain ⟨c, hc1, hc2⟩ := List.any_eq_true.1 h
    rw [hI c hc1] at hc2
    cases hc2


theorem getD_map {α : Type} {f : α → AV} {l : List α} {i : Nat} {a : α} {d : AV} (h : l[i]? = some a) : (l.map f)[i]?.getD d = f a := by
  rw [List.getElem?_map, h]; rfl
theorem r9_cut (l : List Atom) : PureFn prog W0 36 [.sl 48 (l.map atomAV)] (.sl 48 ((l.take 13).map atomAV)) := by
  refine fn_pure [2] [] func36 rfl rfl ntmps36 rfl rfl (ids_map ids_atom _) fun hs σ => ?_
  have e : minI (l.length : Int) 13 = ((min l.length 13 : Nat) : Int) := by unfold minI; split <;> omega
  simp only [go_sem, simprocAttr, ↓reduceIte, List.length_map, e]
  refine ⟨by omega, ?_⟩
  rw [← List.map_take, List.take_eq_take_iff.2 (show min (min l.length 13) l.length = min 13 l.length by omega)]
  exact .refl _
theorem r9_cutProv (l : List Prov) : PureFn prog W0 38 [.sl 105 (l.map provAV)] (.sl 105 ((l.take 13).map provAV)) := by
  refine fn_pure [2] [] func38 rfl rfl ntmps38 rfl rfl (ids_map ids_prov _) fun hs σ => ?_
  have e : minI (l.length : Int) 13 = ((min l.length 13 : Nat) : Int) := by unfold minI; split <;> omega
  simp only [go_sem, simprocAttr, ↓reduceIte, List.length_map, e]
  refine ⟨by omega, ?_⟩
  rw [← List.map_take, List.take_eq_take_iff.2 (show min (min l.length 13) l.length = min 13 l.length by omega)]
  exact .refl _
theorem mayCl_cut (l : List Atom) : mayCl (single (l.take 13)) = mayCl (single l) := by
  rcases Nat.lt_or_ge 12 l.length with h | h
  · rw [mayCl, mayCl, if_pos (.inl (by simp [single]; omega)), if_pos (.inl (by simpa [single] using h))]
  · rw [List.take_of_length_le (by omega)]


theorem r9_may (p : Pkg) : PureFn prog W0 19 [pkgAV p] (.int .i64 (mayPkg p)) := by
  refine fn_pure [2] [1] func19 rfl rfl ntmps19 rfl rfl (.int _ _) fun hs σ => ?_
  simp only [go_sem, simprocAttr, ↓reduceIte, pkgAV]
  refine CallA.fn (r4_name p.name) ?_
  simp only [go_sem, simprocAttr, ↓reduceIte, pkgAV]
  refine CallP.fnG (fun _ => r4_is p.ver) ?_
  simp only [go_sem, simprocAttr, ↓reduceIte, pkgAV]
  refine ⟨fun h => weak_int (by rw [mayPkg, if_pos h]), fun h => ?_⟩
  have hm : mayPkg p = orL [mayCl p.pre, mayCl p.dep, mayCl p.rcm, mayCl (single p.con), mayCl (single p.brk), mayCl (single (p.prov.map provAtom))] := by rw [mayPkg, if_neg (by rw [h]; simp)]
  refine ⟨.of (by kernel_rfl), CallP.fn (r9_cut p.con) ?_⟩
  simp only [go_sem, simprocAttr, ↓reduceIte]
  refine CallP.fn (r4_singles (p.con.take 13) (by rw [List.length_take]; omega)) ?_
  simp only [go_sem, simprocAttr, ↓reduceIte]
  refine CallP.fn (r9_cut p.brk) ?_
  simp only [go_sem, simprocAttr, ↓reduceIte]
  refine CallP.fn (r4_singles (p.brk.take 13) (by rw [List.length_take]; omega)) ?_
  simp only [go_sem, simprocAttr, ↓reduceIte]
  refine CallP.fn (r9_cutProv p.prov) ?_
  simp only [go_sem, simprocAttr, ↓reduceIte]
  refine CallP.fn (r4_provided (p.prov.take 13) (by rw [List.length_take]; omega)) ?_
  simp only [go_sem, simprocAttr, ↓reduceIte]
  refine CallP.fn (r4_singles ((p.prov.take 13).map provAtom) (by rw [List.length_map, List.length_take]; omega)) ?_
  simp only [go_sem, simprocAttr, ↓reduceIte]
  let ls := [p.pre, p.dep, p.rcm, single (p.con.take 13), single (p.brk.take 13), single ((p.prov.take 13).map provAtom)]
  have hl : orL (ls.map mayCl) = mayPkg p := by
    rw [hm]
    simp only [ls, List.map_cons, List.map_nil, mayCl_cut, List.map_take]
  have e : [clausesAV p.pre, clausesAV p.dep, clausesAV p.rcm, clausesAV (single (p.con.take 13)), clausesAV (single (p.brk.take 13)), clausesAV (single ((p.prov.take 13).map provAtom))] = ls.map clausesAV := rfl
  simp only [e]
  refine LoopVC.upto [35] (.of (by kernel_rfl)) 6 (fun i A => A.env 36 = .int .i64 i ∧ A.st = σ ∧ orL ((ls.map mayCl).drop i) = mayPkg p) 0 (Nat.zero_le _) ?_ fun i B hi ⟨h8, hst, hI⟩ => ?_
  · simp only [go_sem, simprocAttr, ↓reduceIte]
    exact hl
  simp only [go_sem, simprocAttr, ↓reduceIte, h8, hst]
  refine ⟨fun hc => ?_, fun hc => weak_int ?_⟩
  · have hc' : i < ls.length := by show i < 6; omega
    obtain ⟨c, hcc⟩ := get_some hc'
    obtain ⟨hlt, hae⟩ := List.getElem?_eq_some_iff.1 hcc
    rw [List.drop_eq_getElem_cons (by simpa using hc'), List.getElem_map, hae] at hI
    simp only [getD_map hcc]
    refine ⟨by simpa using hc', trivial, CallA.fn (r9_mayCl c) ?_⟩
    simp only [go_sem, simprocAttr, ↓reduceIte, h8, hst]
    refine ⟨fun hq => weak_int (by rw [← hI, orL, if_pos hq]), fun hq => ⟨by omega, int_succ (show i < 6 by omega) (by rw [maxLen_eq]; omega), ?_⟩⟩
    rw [← hI, orL, if_neg (by simpa using hq)]
  · rw [List.drop_eq_nil_of_le (by show 6 ≤ i; omega)] at hI
    exact hI

/-- Lists that are small enough to be copied. -/
structure MayN (p : Pkg) : Prop where
  con : p.con.length ≤ 1048576
  brk : p.brk.length ≤ 1048576
  prov : p.prov.length ≤ 1048576

theorem re_may (p : Pkg) (hp : MayN p) : PureFn prog W0 65 [pkgAV p] (.int .i64 (mayPkg p)) := by
  refine fn_pure [2] [1] func65 rfl rfl ntmps65 rfl rfl (.int _ _) fun hs σ => ?_
  simp only [go_sem, simprocAttr, ↓reduceIte, pkgAV]
  refine CallA.fn (ve_parse p.ver) ?_
  have hpv : ∃ e u r, verPAV (verP p.ver) = .tup [.str e, .str u, .str r, .int .i64 (if isVer p.ver then 0 else 3)] := by
    cases h : verP p.ver with
    | none => exact ⟨_, _, _, by rw [isVer, h]; rfl⟩
    | some v => exact ⟨_, _, _, by rw [isVer, h]; rfl⟩
  obtain ⟨e, u, r, hpv⟩ := hpv
  rw [hpv]
  simp only [go_sem, simprocAttr, ↓reduceIte, pkgAV]
  refine CallA.fn (tx_name p.name) ?_
  simp only [go_sem, simprocAttr, ↓reduceIte, pkgAV]
  have hb : (!nameOk p.name || (if isVer p.ver = true then (0 : Int) else 3) != 0) = (!nameOk p.name || !isVer p.ver) := by cases isVer p.ver <;> rfl
  simp only [hb]
  refine ⟨fun h => weak_int (by rw [mayPkg, if_pos h]), fun h => ?_⟩
  have hm : mayPkg p = orL [mayCl p.pre, mayCl p.dep, mayCl p.rcm, mayCl (single p.con), mayCl (single p.brk), mayCl (single (p.prov.map provAtom))] := by rw [mayPkg, if_neg (by rw [h]; simp)]
  refine ⟨.of (by kernel_rfl), CallP.fn (re_singles p.con hp.con) ?_⟩
  simp only [go_sem, simprocAttr, ↓reduceIte]
  refine CallP.fn (re_singles p.brk hp.brk) ?_
  simp only [go_sem, simprocAttr, ↓reduceIte]
  refine CallP.fn (re_provided p.prov hp.prov) ?_
  simp only [go_sem, simprocAttr, ↓reduceIte]
  let ls := [p.pre, p.dep, p.rcm, single p.con, single p.brk, single (p.prov.map provAtom)]
  have hl : orL (ls.map mayCl) = mayPkg p := by
    rw [hm]
    simp only [ls, List.map_cons, List.map_nil]
  have e : [clausesAV p.pre, clausesAV p.dep, clausesAV p.rcm, clausesAV (single p.con), clausesAV (single p.brk), clausesAV (single (p.prov.map provAtom))] = ls.map clausesAV := rfl
  simp only [e]
  refine LoopVC.upto [41, 42] (.of (by kernel_rfl)) 6 (fun i A => A.env 43 = .int .i64 i ∧ A.st = σ ∧ orL ((ls.map mayCl).drop i) = mayPkg p) 0 (Nat.zero_le _) ?_ fun i B hi ⟨h8, hst, hI⟩ => ?_
  · simp only [go_sem, simprocAttr, ↓reduceIte]
    exact hl
  simp only [go_sem, simprocAttr, ↓reduceIte, h8, hst]
  refine ⟨fun hc => ?_, fun hc => weak_int ?_⟩
  · have hc' : i < ls.length := by show i < 6; omega
    obtain ⟨c, hcc⟩ := get_some hc'
    obtain ⟨hlt, hae⟩ := List.getElem?_eq_some_iff.1 hcc
    rw [List.drop_eq_getElem_cons (by simpa using hc'), List.getElem_map, hae] at hI
    simp only [atV_map hcc]
    refine ⟨by simpa using hc', trivial, CallA.fn (re_mayCl c) ?_⟩
    simp only [go_sem, simprocAttr, ↓reduceIte, h8, hst]
    refine ⟨fun hq => weak_int (by rw [← hI, orL, if_pos hq]), fun hq => ⟨by omega, int_succ (show i < 6 by omega) (by rw [maxLen_eq]; omega), ?_⟩⟩
    rw [← hI, orL, if_neg (by simpa using hq)]
  · rw [List.drop_eq_nil_of_le (by show 6 ≤ i; omega)] at hI
    exact hI

theorem re_same (p q : Pkg) : PureFn prog W0 67 [pkgAV q, .loc 38 (pkgAV p)] (.bool (sameNV p q)) := by
  refine fn_pure [3] [2] func67 rfl rfl ntmps67 rfl rfl (.bool _) fun hs σ => ?_
  simp only [go_sem, simprocAttr, ↓reduceIte, pkgAV]
  refine CallP.fnG (fun _ => ve_same q.ver p.ver) ?_
  simp only [go_sem, simprocAttr, ↓reduceIte]
  exact weak_bool rfl

theorem NotM.pkg (p : Pkg) : NotM (pkgAV p) := trivial
@[go_sem] theorem okM_pkgAV (g : Option Bool) (p : Pkg) : okM g (pkgAV p) = True := eq_true trivial
@[go_sem] theorem unm_pkgAV (p : Pkg) : unm (pkgAV p) = pkgAV p := rfl

theorem re_mayAll (l : List Pkg) (hp : ∀ p ∈ l, MayN p) : PureFn prog W0 42 [pkgsAV l] (.int .i64 (mayAll l)) := by
  refine fn_pure [2] [4, 8] func42 rfl rfl ntmps42 rfl rfl (.int _ _) fun hs σ => ?_
  have hl := (small_map (hs _ (List.mem_cons_self ..))).1
  simp only [go_sem, simprocAttr, ↓reduceIte, pkgsAV, List.length_map]
  refine ⟨fun h => weak_int (by rw [mayAll, if_pos ((lenN l 24).1 (by simpa using h))]), fun h => ?_⟩
  have h24 : ¬ 24 < l.length := fun e => by have := (lenN l 24).2 e; omega
  refine LoopVC.at [0] (.of (by kernel_rfl)) (fun A => Ext σ A.st ∧ orL (l.map mayPkg) = 0) ?_ fun B ⟨hst, h6⟩ => ?_
  · refine LoopVC.upto [0, 12, 13] (.of (by kernel_rfl)) l.length (fun i A => A.env 14 = .int .i64 i ∧ Ext σ A.st ∧ orL ((l.map mayPkg).drop i) = orL (l.map mayPkg)) 0 (Nat.zero_le _) ?_ fun i B hi ⟨h8, hst, hI⟩ => ?_
    · simp only [go_sem, simprocAttr, ↓reduceIte]
      simp [Ext.refl]
    simp only [go_sem, simprocAttr, ↓reduceIte, h8, List.length_map]
    refine ⟨fun hc => ⟨hc, ?_⟩, fun hc => ?_⟩
    · obtain ⟨a, ha⟩ := get_some hc
      obtain ⟨hlt, hae⟩ := List.getElem?_eq_some_iff.1 ha
      rw [List.drop_eq_getElem_cons (by simpa using hc), List.getElem_map, hae] at hI
      simp only [atV_map ha]
      simp only [go_sem, simprocAttr, ↓reduceIte, h8, List.length_map]
      refine ⟨by kernel_rfl, CallA.fn (re_may a (hp a (List.mem_of_getElem? ha))) ?_⟩
      simp only [go_sem, simprocAttr, ↓reduceIte, h8]
      refine ⟨fun hq => ⟨weak_int ?_, hst.app _⟩, fun hq => ⟨hc, int_succ hc hl, hst.app _, ?_⟩⟩
      · rw [orL, if_pos hq] at hI
        rw [mayAll, if_neg h24, if_pos (by rw [← hI]; exact hq), hI]
      · rw [← hI, orL, if_neg (by simpa using hq)]
    · rw [List.drop_eq_nil_of_le (by simpa using hc)] at hI
      exact ⟨hst, hI.symm⟩
  have hm : mayAll l = if dupL [] l = true then 4 else if 10 < (namesL l []).length then 12 else 0 := by rw [mayAll, if_neg h24, if_neg (by simp [h6])]
  simp only [go_sem, simprocAttr, ↓reduceIte, List.length_map]
  refine LoopVC.at [0, 24, 25] (.of (by kernel_rfl)) (fun A => ∃ v, A.env 6 = v ∧ Built σ A.st v 9 ((namesL l []).map .str) ∧ dupL [] l = false) ?_ fun B ⟨v, h6, hb, hd⟩ => ?_
  · refine LoopVC.upto [0, 24, 25] (.of (by kernel_rfl)) l.length (fun i A => ∃ v acc, A.env 6 = v ∧ A.env 26 = .int .i64 i ∧ Built σ A.st v 9 (acc.map .str) ∧ namesL (l.drop i) acc = namesL l [] ∧ dupL (l.take i) (l.drop i) = dupL [] l ∧ acc.length ≤ i) 0 (Nat.zero_le _) ?_ fun i B hi ⟨v, acc, h6, h8, hb, hn, hd, hal⟩ => ?_
    · simp only [go_sem, simprocAttr, ↓reduceIte]
      exact ⟨_, [], rfl, Built.nil hst _, by simp⟩
    simp only [go_sem, simprocAttr, ↓reduceIte, h6, h8, hb.ok, hb.un, List.length_map]
    refine ⟨fun hc => ⟨hc, ?_⟩, fun hc => ?_⟩
    · obtain ⟨a, ha⟩ := get_some hc
      obtain ⟨hlt, hae⟩ := List.getElem?_eq_some_iff.1 ha
      rw [List.drop_eq_getElem_cons hc, hae] at hn hd
      simp only [atV_map ha]
      simp only [go_sem, simprocAttr, ↓reduceIte, h6, h8, hb.ok, hb.un, List.length_map]
      rw [← List.map_take]
      refine ⟨by kernel_rfl, ⟨Nat.zero_le _, hi⟩, CallA.fn (anPkg pkgAV NotM.pkg (l.take i) (sameNV a) _ [.loc 38 (pkgAV a)] (fun q _ => re_same a q)) ?_⟩
      simp only [go_sem, simprocAttr, ↓reduceIte, pkgAV, h6, h8, hb.ok, hb.un]
      rw [dupL] at hd
      refine ⟨fun hq => ⟨weak_int ?_, hb.ext.app _⟩, fun hq => CallA.fn ((an_str acc a.name).weak (.cons hb.weak (.cons (.refl _) .nil))) ?_⟩
      · rw [hm, ← hd, hq, if_pos (by simp)]
      rw [hq, Bool.false_or, ← take_succ_get ha] at hd
      simp only [go_sem, simprocAttr, ↓reduceIte, pkgAV, h6, h8, hb.ok, hb.un]
      rw [namesL] at hn
      have hb2 := (hb.more [none])
      refine ⟨fun h => ?_, fun h => ⟨hc, v, acc, rfl, int_succ hc hl, hb2, ?_, hd, by omega⟩⟩
      · refine AppA.own 1048576 (by kernel_rfl) hb2.bld (.lit _ _ _) (by simp; omega) fun v' σ' ha' => ?_
        have hb' := hb2.app ha'
        simp only [go_sem, simprocAttr, ↓reduceIte, h6, h8, hb'.ok, hb'.un]
        refine ⟨hc, _, acc ++ [a.name], rfl, int_succ hc hl, by simpa using hb', ?_, hd, by simp; omega⟩
        rw [if_neg (by simp [h])] at hn
        exact hn
      · rw [if_pos h] at hn
        exact hn
    · rw [List.drop_eq_nil_of_le hc] at hn hd
      exact ⟨_, rfl, by rw [← hn]; exact hb, hd.symm⟩
  simp only [go_sem, simprocAttr, ↓reduceIte, h6, hb.ok, hb.un, hb.len, hb.lenC, List.length_map]
  refine ⟨fun hq => ⟨weak_int ?_, hb.ext⟩, fun hq => ⟨weak_int ?_, hb.ext⟩⟩
  · rw [hm, hd, if_neg (by simp), if_pos ((lenN _ 10).1 hq)]
  · rw [hm, hd, if_neg (by simp), if_neg (fun e => hq ((lenN _ 10).2 e))]
end Go.Proofs.Tryz
end
section
namespace Go.Proofs.Tryz
open Go Go.Av
set_option maxRecDepth 10000
set_option linter.unusedSimpArgs false
set_option linter.unusedVariables false
variable {W0 : World}

theorem r9_mayAll (l : List Pkg) : PureFn prog W0 11 [pkgsAV l] (.int .i64 (mayAll l)) := by
  refine fn_pure [2] [4, 8, 11] func11 rfl rfl ntmps11 rfl rfl (.int _ _) fun hs σ => ?_
  have hl := (small_map (hs _ (List.mem_cons_self ..))).1
  simp only [go_sem, simprocAttr, ↓reduceIte, pkgsAV, List.length_map]
  refine ⟨fun h => weak_int (by rw [mayAll, if_pos ((lenN l 24).1 (by simpa using h))]), fun h => ?_⟩
  have h24 : ¬ 24 < l.length := fun e => by have := (lenN l 24).2 e; omega
  refine LoopVC.at [0] (.of (by kernel_rfl)) (fun A => Ext σ A.st ∧ orL (l.map mayPkg) = 0) ?_ fun B ⟨hst, h6⟩ => ?_
  · refine LoopVC.upto [0, 15, 16] (.of (by kernel_rfl)) l.length (fun i A => A.env 17 = .int .i64 i ∧ Ext σ A.st ∧ orL ((l.map mayPkg).drop i) = orL (l.map mayPkg)) 0 (Nat.zero_le _) ?_ fun i B hi ⟨h8, hst, hI⟩ => ?_
    · simp only [go_sem, simprocAttr, ↓reduceIte]
      simp [Ext.refl]
    simp only [go_sem, simprocAttr, ↓reduceIte, h8, List.length_map]
    refine ⟨fun hc => ⟨hc, ?_⟩, fun hc => ?_⟩
    · obtain ⟨a, ha⟩ := get_some hc
      obtain ⟨hlt, hae⟩ := List.getElem?_eq_some_iff.1 ha
      rw [List.drop_eq_getElem_cons (by simpa using hc), List.getElem_map, hae] at hI
      simp only [atV_map ha]
      simp only [go_sem, simprocAttr, ↓reduceIte, h8, List.length_map]
      refine ⟨by kernel_rfl, CallA.fn (r9_may a) ?_⟩
      simp only [go_sem, simprocAttr, ↓reduceIte, h8]
      refine ⟨fun hq => ⟨weak_int ?_, hst.app _⟩, fun hq => ⟨hc, int_succ hc hl, hst.app _, ?_⟩⟩
      · rw [orL, if_pos hq] at hI
        rw [mayAll, if_neg h24, if_pos (by rw [← hI]; exact hq), hI]
      · rw [← hI, orL, if_neg (by simpa using hq)]
    · rw [List.drop_eq_nil_of_le (by simpa using hc)] at hI
      exact ⟨hst, hI.symm⟩
  have hm : mayAll l = if dupL [] l = true then 4 else if 10 < (namesL l []).length then 12 else 0 := by rw [mayAll, if_neg h24, if_neg (by simp [h6])]
  simp only [go_sem, simprocAttr, ↓reduceIte, List.length_map]
  refine LoopVC.at [0, 27, 28] (.of (by kernel_rfl)) (fun A => ∃ v, A.env 6 = v ∧ Built σ A.st v 9 ((namesL l []).map .str) ∧ dupL [] l = false) ?_ fun B ⟨v, h6, hb, hd⟩ => ?_
  · refine LoopVC.upto [0, 27, 28] (.of (by kernel_rfl)) l.length (fun i A => ∃ v acc, A.env 6 = v ∧ A.env 29 = .int .i64 i ∧ Built σ A.st v 9 (acc.map .str) ∧ namesL (l.drop i) acc = namesL l [] ∧ dupL (l.take i) (l.drop i) = dupL [] l ∧ acc.length ≤ i ∧ ∀ n, acc.any (fun x => n == x) = (l.take i).any (fun q => q.name == n)) 0 (Nat.zero_le _) ?_ fun i B hi ⟨v, acc, h6, h8, hb, hn, hd, hal, hnm⟩ => ?_
    · simp only [go_sem, simprocAttr, ↓reduceIte]
      exact ⟨_, [], rfl, Built.nil hst _, by simp⟩
    simp only [go_sem, simprocAttr, ↓reduceIte, h6, h8, hb.ok, hb.un, List.length_map]
    refine ⟨fun hc => ⟨hc, ?_⟩, fun hc => ?_⟩
    · obtain ⟨a, ha⟩ := get_some hc
      obtain ⟨hlt, hae⟩ := List.getElem?_eq_some_iff.1 ha
      rw [List.drop_eq_getElem_cons hc, hae] at hn hd
      simp only [atV_map ha]
      simp only [go_sem, simprocAttr, ↓reduceIte, h6, h8, hb.ok, hb.un, List.length_map]
      rw [← List.map_take]
      refine ⟨by kernel_rfl, ⟨Nat.zero_le _, hi⟩, ?_⟩
      rw [dupL] at hd
      rw [namesL] at hn
      have hb2 := (hb.more [none])
      have hil : (l.take i).length = i := by rw [List.length_take]; omega
      refine LoopVC.at [0, 6, 8, 27, 28, 29] (.of (by kernel_rfl)) (fun A => Ext (B.st ++ [none]) A.st ∧ A.env 9 = .bool ((l.take i).any fun q => q.name == a.name) ∧ (l.take i).any (sameNV a) = false) ?_ fun A ⟨hst, h9, hd2⟩ => ?_
      · refine LoopVC.upto [0, 6, 8, 27, 28, 29, 36, 37] (.of (by kernel_rfl)) i (fun j A => A.env 38 = .int .i64 j ∧ Ext (B.st ++ [none]) A.st ∧ A.env 9 = .bool (((l.take i).take j).any fun q => q.name == a.name) ∧ ((l.take i).take j).any (sameNV a) = false) 0 (Nat.zero_le _) ?_ fun j A hj ⟨h38, hst, h9, hd2⟩ => ?_
        · simp only [go_sem, simprocAttr, ↓reduceIte, List.length_map]
          exact ⟨.refl _, by simp, by simp⟩
        simp only [go_sem, simprocAttr, ↓reduceIte, h38, h9, List.length_map]
        refine ⟨fun hj' => ⟨hj', ?_⟩, fun hj' => ?_⟩
        · obtain ⟨b, hbj⟩ := get_some hj'
          have hjl : j < i := by omega
          simp only [atV_map hbj]
          simp only [go_sem, simprocAttr, ↓reduceIte, pkgAV, h38, h9]
          have he : ∀ f : Pkg → Bool, ((l.take i).take (j + 1)).any f = (((l.take i).take j).any f || f b) := fun f => by rw [take_succ_get hbj, List.any_append]; simp
          refine ⟨fun hq => CallA.fn (r4_sameVersion b.ver a.ver) ?_, fun hq => ?_⟩
          · simp only [go_sem, simprocAttr, ↓reduceIte, h38, h9]
            refine ⟨fun hv => ⟨weak_int ?_, hb2.ext.trans (hst.app _)⟩, fun hv => ⟨hjl, int_succ hjl (by omega), hst.app _, ?_, ?_⟩⟩
            · have : (l.take i).any (sameNV a) = true := any_true hbj (by simp [sameNV, hq, hv])
              rw [hm, ← hd, this, if_pos (by simp)]
            · rw [he]; simp [hq]
            · rw [he, hd2]; simp [sameNV, hv]
          · refine ⟨hjl, int_succ hjl (by omega), hst.app _, ?_, ?_⟩
            · rw [he]; simp [hq]
            · rw [he, hd2]; simp [sameNV, hq]
        · rw [List.take_of_length_le hj'] at h9 hd2 ⊢
          exact ⟨hst, rfl, hd2⟩
      have hb3 := hb2.on hst
      rw [hd2, Bool.false_or, ← take_succ_get ha] at hd
      have hns : ∀ acc' : List (List UInt8), acc' = (if (acc.any fun x => a.name == x) = true then acc else acc ++ [a.name]) → ∀ n, acc'.any (fun x => n == x) = (l.take (i + 1)).any (fun q => q.name == n) := fun acc' e n => by
        rw [take_succ_get ha, List.any_append, ← hnm n, e]
        by_cases hx : (acc.any fun x => a.name == x) = true
        · rw [if_pos hx]
          by_cases hna : a.name = n
          · subst hna; simp [hx]
          · simp [hna]
        · rw [if_neg hx, List.any_append]
          have : (n == a.name) = (a.name == n) := by rw [Bool.eq_iff_iff, beq_iff_eq, beq_iff_eq]; exact ⟨Eq.symm, Eq.symm⟩
          simp [this]
      simp only [go_sem, simprocAttr, ↓reduceIte, pkgAV, h6, h8, h9, hb3.ok, hb3.un]
      refine ⟨fun h => ?_, fun h => ⟨hc, v, acc, rfl, int_succ hc hl, hb3, ?_, hd, by omega, ?_⟩⟩
      · refine AppA.own 1048576 (by kernel_rfl) hb3.bld (.lit _ _ _) (by simp; omega) fun v' σ' ha' => ?_
        have hb' := hb3.app ha'
        simp only [go_sem, simprocAttr, ↓reduceIte, h6, h8, hb'.ok, hb'.un]
        rw [← hnm] at h
        rw [if_neg (by rw [h]; simp)] at hn hns
        refine ⟨hc, _, acc ++ [a.name], rfl, int_succ hc hl, by simpa using hb', hn, hd, by simp; omega, hns _ rfl⟩
      · rw [← hnm] at h
        rw [if_pos h] at hn
        exact hn
      · rw [← hnm] at h
        rw [if_pos h] at hns
        exact hns _ rfl
    · rw [List.drop_eq_nil_of_le hc] at hn hd
      exact ⟨_, rfl, by rw [← hn]; exact hb, hd.symm⟩
  simp only [go_sem, simprocAttr, ↓reduceIte, h6, hb.ok, hb.un, hb.len, hb.lenC, List.length_map]
  refine ⟨fun hq => ⟨weak_int ?_, hb.ext⟩, fun hq => ⟨weak_int ?_, hb.ext⟩⟩
  · rw [hm, hd, if_neg (by simp), if_pos ((lenN _ 10).1 hq)]
  · rw [hm, hd, if_neg (by simp), if_neg (fun e => hq ((lenN _ 10).2 e))]
end Go.Proofs.Tryz
end
section
namespace Go.Av

theorem any_succ {α : Type} {l : List α} {i : Nat} {x : α} (h : l[i]? = some x) (f : α → Bool) : (l.take (i + 1)).any f = ((l.take i).any f || f x) := by
  rw [take_succ_get h, List.any_append]; simp
theorem any_zero {α : Type} (l : List α) (f : α → Bool) : (l.take 0).any f = false := rfl
theorem any_end {α : Type} {l : List α} {i : Nat} (h : l.length ≤ i) (f : α → Bool) : (l.take i).any f = l.any f := by rw [List.take_of_length_le h]

/-- A package meets an atom: by its name, or by what it provides. -/
def satP (p : Pkg) (a : Atom) : Bool :=
  mayAtom a && ((p.name == a.name && holdsV a.rel p.ver a.ver) || p.prov.any fun v => v.name == a.name && (a.rel == 0 || holdsV a.rel v.ver a.ver))
def againstP (p q : Pkg) : Bool := p.con.any (satP q) || p.brk.any (satP q)
def clashP (p q : Pkg) : Bool := p.name != q.name && (againstP p q || againstP q p)
def metP (c : Clause) (l : List Pkg) : Bool := c.any fun a => l.any fun p => satP p a
/-- One package among others, of which some stand ahead of it. -/
def sickP (l bef : List Pkg) (p : Pkg) : Bool := mayPkg p != 0 || bef.any (fun q => q.name == p.name || clashP p q) || (p.pre.any (fun c => !metP c l) || p.dep.any (fun c => !metP c l))
def sickL (l : List Pkg) : List Pkg → List Pkg → Bool
  | _, [] => false
  | bef, p :: r => sickP l bef p || sickL l (bef ++ [p]) r
def healthyP (l : List Pkg) : Bool := !sickL l [] l

theorem isVer_nil : isVer [] = false := rfl
theorem holds_nil {r : Int} (b : List UInt8) : holdsV r [] b = false := by
  unfold holdsV
  rw [isVer_nil]
  split <;> rfl

end Go.Av
end
section
namespace Go.Proofs.Tryz
open Go Go.Av
set_option maxRecDepth 10000
set_option linter.unusedSimpArgs false
set_option linter.unusedVariables false
variable {W0 : World}

@[go_sem] theorem okM_atomAV (g : Option Bool) (p : Atom) : okM g (atomAV p) = True := eq_true trivial
@[go_sem] theorem unm_atomAV (p : Atom) : unm (atomAV p) = atomAV p := rfl
@[go_sem] theorem fits_atomAV (p : Atom) : fitsB prog 48 (atomAV p) = true := by kernel_rfl
@[go_sem] theorem fits_pkgAV (p : Pkg) : fitsB prog 38 (pkgAV p) = true := by kernel_rfl
@[go_sem] theorem fits_provAV (p : Prov) : fitsB prog 105 (provAV p) = true := by kernel_rfl
@[go_sem] theorem okM_provAV (g : Option Bool) (p : Prov) : okM g (provAV p) = True := eq_true trivial
@[go_sem] theorem unm_provAV (p : Prov) : unm (provAV p) = provAV p := rfl
theorem NotM.prov (p : Prov) : NotM (provAV p) := trivial

theorem ix_sat1 (a : Atom) (v : Prov) : PureFn prog W0 76 [provAV v, .loc 48 (atomAV a)] (.bool (v.name == a.name && (a.rel == 0 || holdsV a.rel v.ver a.ver))) := by
  refine fn_pure [3] [2] func76 rfl rfl ntmps76 rfl rfl (.bool _) fun hs σ => ?_
  simp only [go_sem, simprocAttr, ↓reduceIte, provAV, atomAV]
  refine CallP.fnG (fun _ => ve_holds a.rel v.ver a.ver) ?_
  simp only [go_sem, simprocAttr, ↓reduceIte]

theorem ix_sat (p : Pkg) (a : Atom) : PureFn prog W0 49 [pkgAV p, atomAV a] (.bool (satP p a)) := by
  refine fn_pure [4] [2, 3] func49 rfl rfl ntmps49 rfl rfl (.bool _) fun hs σ => ?_
  simp only [go_sem, simprocAttr, ↓reduceIte, pkgAV, atomAV]
  refine CallA.fn (rl_mayAtom a) ?_
  simp only [go_sem, simprocAttr, ↓reduceIte, pkgAV, atomAV]
  refine ⟨fun h => weak_bool (by rw [satP, h]; rfl), fun h => CallP.fnG (fun _ => ve_holds a.rel p.ver a.ver) ?_⟩
  simp only [go_sem, simprocAttr, ↓reduceIte, pkgAV, atomAV]
  refine ⟨fun h2 => weak_bool (by rw [satP, h, h2]; rfl), fun h2 => CallA.fn (anProv provAV NotM.prov p.prov _ _ [.loc 48 (atomAV a)] (fun q _ => ix_sat1 a q)) ?_⟩
  simp only [go_sem, simprocAttr, ↓reduceIte]
  exact weak_bool (by rw [satP, h, h2]; simp)

theorem ix_against1 (q : Pkg) (a : Atom) : PureFn prog W0 109 [atomAV a, .loc 38 (pkgAV q)] (.bool (satP q a)) := by
  refine fn_pure [3] [2] func109 rfl rfl ntmps109 rfl rfl (.bool _) fun hs σ => ?_
  simp only [go_sem, simprocAttr, ↓reduceIte]
  refine CallA.fn (ix_sat q a) ?_
  simp only [go_sem, simprocAttr, ↓reduceIte]
  try exact weak_bool rfl

theorem ix_against (p q : Pkg) : PureFn prog W0 79 [pkgAV p, pkgAV q] (.bool (againstP p q)) := by
  refine fn_pure [4] [2, 3] func79 rfl rfl ntmps79 rfl rfl (.bool _) fun hs σ => ?_
  simp only [go_sem, simprocAttr, ↓reduceIte, pkgAV]
  refine CallA.fn (anAtom atomAV NotM.atom p.con (satP q) _ [.loc 38 (pkgAV q)] (fun a _ => ix_against1 q a)) ?_
  simp only [go_sem, simprocAttr, ↓reduceIte, pkgAV]
  refine CallP.go (fun _ => anAtom atomAV NotM.atom p.brk (satP q) _ [.loc 38 (pkgAV q)] (fun a _ => ix_against1 q a)) ?_
  simp only [go_sem, simprocAttr, ↓reduceIte]
  try exact weak_bool rfl

theorem ix_clash (p q : Pkg) : PureFn prog W0 51 [pkgAV p, pkgAV q] (.bool (clashP p q)) := by
  refine fn_pure [4] [2, 3] func51 rfl rfl ntmps51 rfl rfl (.bool _) fun hs σ => ?_
  simp only [go_sem, simprocAttr, ↓reduceIte, pkgAV]
  refine CallP.fnG (fun _ => ix_against p q) ?_
  simp only [go_sem, simprocAttr, ↓reduceIte]
  refine CallP.fnG (fun _ => ix_against q p) ?_
  simp only [go_sem, simprocAttr, ↓reduceIte]
  try exact weak_bool rfl

theorem r10_sat (p : Pkg) (a : Atom) : PureFn prog W0 64 [pkgAV p, atomAV a] (.bool (satP p a)) := by
  refine fn_pure [4] [2, 3, 6] func64 rfl rfl ntmps64 rfl rfl (.bool _) fun hs σ => ?_
  have hl := (small_map (small_agg (hs _ (List.mem_cons_self ..)) (provsAV p.prov) (by simp))).1
  simp only [go_sem, simprocAttr, ↓reduceIte, pkgAV, atomAV]
  refine CallA.fn (r4_mayAtom a) ?_
  simp only [go_sem, simprocAttr, ↓reduceIte, pkgAV, atomAV]
  refine ⟨fun h => weak_bool (by rw [satP, h]; rfl), fun h => CallP.fnG (fun _ => r4_holds a.rel p.ver a.ver) ?_⟩
  simp only [go_sem, simprocAttr, ↓reduceIte, pkgAV, atomAV]
  refine ⟨fun h2 => weak_bool (by rw [satP, h, h2]; rfl), fun h2 => ?_⟩
  simp only [go_sem, simprocAttr, ↓reduceIte, provsAV, List.length_map]
  refine LoopVC.upto [3, 25, 26] (.of (by kernel_rfl)) p.prov.length (fun i A => A.env 27 = .int .i64 i ∧ Ext σ A.st ∧ (p.prov.take i).any (fun v => v.name == a.name && (a.rel == 0 || holdsV a.rel v.ver a.ver)) = false) 0 (Nat.zero_le _) ?_ fun i B hi ⟨h8, hst, hI⟩ => ?_
  · simp only [go_sem, simprocAttr, ↓reduceIte]
    simp [Ext.refl]
  simp only [go_sem, simprocAttr, ↓reduceIte, h8, List.length_map]
  refine ⟨fun hc => ⟨hc, ?_⟩, fun hc => ⟨weak_bool ?_, hst⟩⟩
  · obtain ⟨v, hv⟩ := get_some hc
    simp only [atV_map hv]
    simp only [go_sem, simprocAttr, ↓reduceIte, provAV, h8]
    refine CallP.fnG (fun _ => r4_holds a.rel v.ver a.ver) ?_
    simp only [go_sem, simprocAttr, ↓reduceIte, h8]
    have e : (v.name == a.name && (a.rel == 0 || !v.ver == [] && holdsV a.rel v.ver a.ver)) = (v.name == a.name && (a.rel == 0 || holdsV a.rel v.ver a.ver)) := by
      cases hv : v.ver with
      | nil => rw [holds_nil]; simp
      | cons c r => simp
    simp only [e]
    refine ⟨fun hq => ⟨weak_bool ?_, hst.app _⟩, fun hq => ⟨hc, int_succ hc hl, hst.app _, by rw [any_succ hv, hI, hq]; rfl⟩⟩
    rw [satP, h, h2, any_true hv hq]; rfl
  · rw [any_end hc] at hI
    rw [satP, h, h2, hI]; rfl

theorem r10_forbids (p q : Pkg) : PureFn prog W0 63 [pkgAV p, pkgAV q] (.bool (againstP p q)) := by
  refine fn_pure [4] [2, 3, 8] func63 rfl rfl ntmps63 rfl rfl (.bool _) fun hs σ => ?_
  have hl1 := (small_map (small_agg (hs _ (List.mem_cons_self ..)) (atomsAV p.con) (by simp))).1
  have hl2 := (small_map (small_agg (hs _ (List.mem_cons_self ..)) (atomsAV p.brk) (by simp))).1
  simp only [go_sem, simprocAttr, ↓reduceIte, pkgAV]
  let ls := [p.con, p.brk]
  have e : [atomsAV p.con, atomsAV p.brk] = ls.map atomsAV := rfl
  have hls : ∀ l ∈ ls, l.length ≤ maxLen := by simp only [ls]; simp [hl1, hl2]
  have ha : againstP p q = ls.any fun l => l.any (satP q) := by simp only [ls]; simp [againstP]
  simp only [e]
  refine LoopVC.upto [3, 13] (.of (by kernel_rfl)) 2 (fun i A => A.env 14 = .int .i64 i ∧ Ext σ A.st ∧ ((ls.take i).any fun l => l.any (satP q)) = false) 0 (Nat.zero_le _) ?_ fun i B hi ⟨h8, hst, hI⟩ => ?_
  · simp only [go_sem, simprocAttr, ↓reduceIte]
    simp [Ext.refl]
  simp only [go_sem, simprocAttr, ↓reduceIte, h8]
  refine ⟨fun hc => ?_, fun hc => ⟨weak_bool ?_, hst⟩⟩
  · have hc' : i < ls.length := by show i < 2; omega
    obtain ⟨l, hll⟩ := get_some hc'
    have hl := hls l (List.mem_of_getElem? hll)
    simp only [getD_map hll]
    simp only [go_sem, simprocAttr, ↓reduceIte, atomsAV, List.length_map]
    refine ⟨hc', LoopVC.ats [3, 13, 14] (.of (by kernel_rfl)) (fun A => Ext σ A.st ∧ l.any (satP q) = false) ?_ fun A ⟨hst, hd⟩ => ?_⟩
    · refine LoopVC.upto [3, 13, 14, 17, 18] (.of (by kernel_rfl)) l.length (fun j A => A.env 19 = .int .i64 j ∧ Ext σ A.st ∧ (l.take j).any (satP q) = false) 0 (Nat.zero_le _) ?_ fun j A hj ⟨h19, hst, hJ⟩ => ?_
      · simp only [go_sem, simprocAttr, ↓reduceIte]
        simp [hst]
      simp only [go_sem, simprocAttr, ↓reduceIte, h19, List.length_map]
      refine ⟨fun hc' => ⟨hc', ?_⟩, fun hc' => ⟨hst, by rwa [any_end hc'] at hJ⟩⟩
      obtain ⟨a, ha'⟩ := get_some hc'
      simp only [atV_map ha']
      simp only [go_sem, simprocAttr, ↓reduceIte, h19]
      refine CallA.fn (r10_sat q a) ?_
      simp only [go_sem, simprocAttr, ↓reduceIte, h19]
      refine ⟨fun hq => ⟨weak_bool ?_, hst.app _⟩, fun hq => ⟨hc', int_succ hc' hl, hst.app _, by rw [any_succ ha', hJ, hq]; rfl⟩⟩
      rw [ha, any_true hll (any_true ha' hq)]
    simp only [go_sem, simprocAttr, ↓reduceIte, h8]
    exact ⟨by omega, int_succ (show i < 2 by omega) (by rw [maxLen_eq]; omega), hst, by rw [any_succ hll, hI, hd]; rfl⟩
  · rw [any_end (by show 2 ≤ i; omega)] at hI
    rw [ha, hI]

theorem r10_clash (p q : Pkg) : PureFn prog W0 40 [pkgAV p, pkgAV q] (.bool (clashP p q)) := by
  refine fn_pure [4] [2, 3] func40 rfl rfl ntmps40 rfl rfl (.bool _) fun hs σ => ?_
  simp only [go_sem, simprocAttr, ↓reduceIte, pkgAV]
  refine CallP.fnG (fun _ => r10_forbids p q) ?_
  simp only [go_sem, simprocAttr, ↓reduceIte]
  refine CallP.fnG (fun _ => r10_forbids q p) ?_
  simp only [go_sem, simprocAttr, ↓reduceIte]
  try exact weak_bool rfl

theorem r10_met (c : Clause) (l : List Pkg) : PureFn prog W0 41 [atomsAV c, pkgsAV l] (.bool (metP c l)) := by
  refine fn_pure [4] [6, 8] func41 rfl rfl ntmps41 rfl rfl (.bool _) fun hs σ => ?_
  have hcl := (small_map (hs _ (List.mem_cons_self ..))).1
  have hl := (small_map (hs (pkgsAV l) (by simp))).1
  simp only [go_sem, simprocAttr, ↓reduceIte, atomsAV, pkgsAV, List.length_map]
  refine LoopVC.upto [1, 9, 10] (.of (by kernel_rfl)) c.length (fun i A => A.env 11 = .int .i64 i ∧ Ext σ A.st ∧ ((c.take i).any fun a => l.any fun p => satP p a) = false) 0 (Nat.zero_le _) ?_ fun i B hi ⟨h8, hst, hI⟩ => ?_
  · simp only [go_sem, simprocAttr, ↓reduceIte]
    simp [Ext.refl]
  simp only [go_sem, simprocAttr, ↓reduceIte, h8, List.length_map]
  refine ⟨fun hc => ⟨hc, ?_⟩, fun hc => ⟨weak_bool ?_, hst⟩⟩
  · obtain ⟨a, ha⟩ := get_some hc
    simp only [atV_map ha]
    simp only [go_sem, simprocAttr, ↓reduceIte, h8, List.length_map]
    refine LoopVC.ats [1, 9, 10, 11] (.of (by kernel_rfl)) (fun A => Ext σ A.st ∧ (l.any fun p => satP p a) = false) ?_ fun A ⟨hst, hd⟩ => ?_
    · refine LoopVC.upto [1, 6, 9, 10, 11, 15, 16] (.of (by kernel_rfl)) l.length (fun j A => A.env 17 = .int .i64 j ∧ Ext σ A.st ∧ ((l.take j).any fun p => satP p a) = false) 0 (Nat.zero_le _) ?_ fun j A hj ⟨h19, hst, hJ⟩ => ?_
      · simp only [go_sem, simprocAttr, ↓reduceIte]
        simp [hst.app]
      simp only [go_sem, simprocAttr, ↓reduceIte, h19, List.length_map]
      refine ⟨fun hc' => ⟨hc', ?_⟩, fun hc' => ⟨hst, by rwa [any_end hc'] at hJ⟩⟩
      obtain ⟨p, hp⟩ := get_some hc'
      simp only [atV_map hp]
      simp only [go_sem, simprocAttr, ↓reduceIte, h19]
      refine CallA.fn (r10_sat p a) ?_
      simp only [go_sem, simprocAttr, ↓reduceIte, h19]
      refine ⟨fun hq => ⟨weak_bool ?_, hst.app _⟩, fun hq => ⟨hc', int_succ hc' hl, hst.app _, by rw [any_succ hp, hJ, hq]; rfl⟩⟩
      rw [metP, any_true ha (any_true hp hq)]
    simp only [go_sem, simprocAttr, ↓reduceIte, h8]
    exact ⟨hc, int_succ hc hcl, hst, by rw [any_succ ha, hI, hd]; rfl⟩
  · rw [any_end hc] at hI
    exact hI.symm

theorem r10_healthy (l : List Pkg) : PureFn prog W0 20 [pkgsAV l] (.bool (healthyP l)) := by
  refine fn_pure [2] [4, 6] func20 rfl rfl ntmps20 rfl rfl (.bool _) fun hs σ => ?_
  have hl := (small_map (hs _ (List.mem_cons_self ..))).1
  have hls := (small_map (hs _ (List.mem_cons_self ..))).2
  simp only [go_sem, simprocAttr, ↓reduceIte, pkgsAV, List.length_map]
  refine LoopVC.upto [0, 11, 12] (.of (by kernel_rfl)) l.length (fun i A => A.env 13 = .int .i64 i ∧ Ext σ A.st ∧ sickL l (l.take i) (l.drop i) = sickL l [] l) 0 (Nat.zero_le _) ?_ fun i B hi ⟨h8, hst, hI⟩ => ?_
  · simp only [go_sem, simprocAttr, ↓reduceIte]
    simp [Ext.refl]
  simp only [go_sem, simprocAttr, ↓reduceIte, h8, List.length_map]
  refine ⟨fun hc => ⟨hc, ?_⟩, fun hc => ⟨weak_bool ?_, hst⟩⟩
  · obtain ⟨a, ha⟩ := get_some hc
    obtain ⟨hlt, hae⟩ := List.getElem?_eq_some_iff.1 ha
    have hsm := small_agg (hls a (List.mem_of_getElem? ha))
    have hpre : a.pre.length ≤ maxLen := (small_map (hsm (clausesAV a.pre) (by simp))).1
    have hdep : a.dep.length ≤ maxLen := (small_map (hsm (clausesAV a.dep) (by simp))).1
    rw [List.drop_eq_getElem_cons hc, hae, sickL] at hI
    have sick : sickP l (l.take i) a = true → false = healthyP l := fun e => by rw [healthyP, ← hI, e]; rfl
    simp only [atV_map ha]
    simp only [go_sem, simprocAttr, ↓reduceIte, h8, List.length_map]
    refine CallA.fn (r9_may a) ?_
    simp only [go_sem, simprocAttr, ↓reduceIte, h8, List.length_map]
    refine ⟨fun hq => ⟨weak_bool (sick ?_), hst.app _⟩, fun hq => ?_⟩
    · simp [sickP, hq]
    rw [← List.map_take]
    have hil : (l.take i).length = i := by rw [List.length_take]; omega
    refine ⟨⟨Nat.zero_le _, hi⟩, LoopVC.at [0, 4, 11, 12, 13] (.of (by kernel_rfl)) (fun A => Ext σ A.st ∧ (l.take i).any (fun q => q.name == a.name || clashP a q) = false) ?_ fun A ⟨hst, hn⟩ => ?_⟩
    · refine LoopVC.upto [0, 4, 11, 12, 13, 23, 24] (.of (by kernel_rfl)) i (fun j A => A.env 25 = .int .i64 j ∧ Ext σ A.st ∧ ((l.take i).take j).any (fun q => q.name == a.name || clashP a q) = false) 0 (Nat.zero_le _) ?_ fun j A hj ⟨h25, hst, hJ⟩ => ?_
      · simp only [go_sem, simprocAttr, ↓reduceIte]
        simp [hst.app]
      simp only [go_sem, simprocAttr, ↓reduceIte, h25, List.length_map]
      refine ⟨fun hj' => ⟨hj', ?_⟩, fun hj' => ⟨hst, by rwa [any_end hj'] at hJ⟩⟩
      obtain ⟨b, hbj⟩ := get_some hj'
      simp only [atV_map hbj]
      simp only [go_sem, simprocAttr, ↓reduceIte, pkgAV, h25]
      refine CallP.fnG (fun _ => r10_clash a b) ?_
      simp only [go_sem, simprocAttr, ↓reduceIte, h25]
      refine ⟨fun hq => ⟨weak_bool (sick ?_), hst.app _⟩, fun hq => ⟨by omega, int_succ (show j < i by omega) (by omega), hst.app _, by rw [any_succ hbj, hJ, hq]; rfl⟩⟩
      rw [sickP, any_true hbj hq]; simp
    simp only [go_sem, simprocAttr, ↓reduceIte, pkgAV, h8]
    let ls := [a.pre, a.dep]
    have e : [clausesAV a.pre, clausesAV a.dep] = ls.map clausesAV := rfl
    have hls : ∀ l ∈ ls, l.length ≤ maxLen := by simp only [ls]; simp [hpre, hdep]
    have hms : (a.pre.any (fun c => !metP c l) || a.dep.any (fun c => !metP c l)) = ls.any fun d => d.any fun c => !metP c l := by simp only [ls]; simp
    simp only [e]
    refine LoopVC.ats [0, 11, 12, 13] (.of (by kernel_rfl)) (fun A => Ext σ A.st ∧ (ls.any fun d => d.any fun c => !metP c l) = false) ?_ fun A ⟨hst, hd⟩ => ?_
    · refine LoopVC.upto [0, 11, 12, 13, 44] (.of (by kernel_rfl)) 2 (fun k A => A.env 45 = .int .i64 k ∧ Ext σ A.st ∧ ((ls.take k).any fun d => d.any fun c => !metP c l) = false) 0 (Nat.zero_le _) ?_ fun k A hk ⟨h45, hst, hK⟩ => ?_
      · simp only [go_sem, simprocAttr, ↓reduceIte]
        simp [hst]
      simp only [go_sem, simprocAttr, ↓reduceIte, h45]
      refine ⟨fun hc => ?_, fun hc => ⟨hst, by rwa [any_end (by show 2 ≤ k; omega)] at hK⟩⟩
      have hc' : k < ls.length := by show k < 2; omega
      obtain ⟨d, hd⟩ := get_some hc'
      have hl := hls d (List.mem_of_getElem? hd)
      simp only [getD_map hd]
      simp only [go_sem, simprocAttr, ↓reduceIte, clausesAV, h45, List.length_map]
      refine ⟨hc', LoopVC.ats [0, 11, 12, 13, 44, 45] (.of (by kernel_rfl)) (fun A => Ext σ A.st ∧ (d.any fun c => !metP c l) = false) ?_ fun A ⟨hst, hd'⟩ => ?_⟩
      · refine LoopVC.upto [0, 11, 12, 13, 44, 45, 48, 49] (.of (by kernel_rfl)) d.length (fun j A => A.env 50 = .int .i64 j ∧ Ext σ A.st ∧ ((d.take j).any fun c => !metP c l) = false) 0 (Nat.zero_le _) ?_ fun j A hj ⟨h50, hst, hJ⟩ => ?_
        · simp only [go_sem, simprocAttr, ↓reduceIte]
          simp [hst]
        simp only [go_sem, simprocAttr, ↓reduceIte, h50, List.length_map]
        refine ⟨fun hc' => ⟨hc', ?_⟩, fun hc' => ⟨hst, by rwa [any_end hc'] at hJ⟩⟩
        obtain ⟨c, hcj⟩ := get_some hc'
        simp only [atV_map hcj]
        simp only [go_sem, simprocAttr, ↓reduceIte, h50]
        refine CallA.fn (r10_met c l) ?_
        simp only [go_sem, simprocAttr, ↓reduceIte, h50]
        refine ⟨fun hq => ⟨weak_bool (sick ?_), hst⟩, fun hq => ⟨hc', int_succ hc' hl, hst, by rw [any_succ hcj, hJ, hq]; rfl⟩⟩
        rw [sickP, hms, any_true hd (any_true hcj (by rw [hq]; rfl))]; simp
      simp only [go_sem, simprocAttr, ↓reduceIte, h45]
      exact ⟨by omega, int_succ (show k < 2 by omega) (by rw [maxLen_eq]; omega), hst, by rw [any_succ hd, hK, hd']; rfl⟩
    simp only [go_sem, simprocAttr, ↓reduceIte, h8]
    refine ⟨hc, int_succ hc hl, hst, ?_⟩
    have : sickP l (l.take i) a = false := by rw [sickP, hn, hms, hd, hq]; rfl
    rw [this, Bool.false_or, ← take_succ_get ha] at hI
    exact hI
  · rw [List.drop_eq_nil_of_le hc] at hI
    rw [healthyP, ← hI]; rfl
end Go.Proofs.Tryz
end
