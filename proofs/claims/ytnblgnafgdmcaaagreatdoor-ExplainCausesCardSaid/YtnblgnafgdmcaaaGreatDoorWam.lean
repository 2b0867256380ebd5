/- Texts that the last one of this claim rests on: a layer over the guide's own conditions for code; contracts of the functions that the law reaches, one by one. No conditions beside those of the given rows. -/
import Derived.Test.YtnblgnafgdmcaaaGreatDoorProg
import Derived.Test.YtnblgnafgdmcaaaGreatDoorWal
section
set_option linter.unusedSimpArgs false
set_option linter.unusedVariables false
namespace Go.Proofs.Tryz
open Go Go.Av
@[go_sem] theorem ft_orders : prog.follows .mixedOrders = true := by kernel_rfl
@[go_sem] theorem ft_sz0 : szOf prog 0 = 1 := by kernel_rfl
@[go_sem] theorem ft_pr0 : prim prog 0 = true := by kernel_rfl
@[go_sem] theorem ft_hz0 : hasZero prog 0 = true := by kernel_rfl
@[go_sem] theorem ft_by0 : bytesOf prog 0 = 0 := by kernel_rfl
@[go_sem] theorem ft_sz1 : szOf prog 1 = 1 := by kernel_rfl
@[go_sem] theorem ft_pr1 : prim prog 1 = true := by kernel_rfl
@[go_sem] theorem ft_hz1 : hasZero prog 1 = true := by kernel_rfl
@[go_sem] theorem ft_by1 : bytesOf prog 1 = 8 := by kernel_rfl
@[go_sem] theorem ft_sz2 : szOf prog 2 = 1 := by kernel_rfl
@[go_sem] theorem ft_pr2 : prim prog 2 = true := by kernel_rfl
@[go_sem] theorem ft_it2 : intT prog 2 = some .i64 := by kernel_rfl
@[go_sem] theorem ft_hz2 : hasZero prog 2 = true := by kernel_rfl
@[go_sem] theorem ft_by2 : bytesOf prog 2 = 8 := by kernel_rfl
@[go_sem] theorem ft_zo2 : zeroOf prog 2 = some (.int .i64 0) := by kernel_rfl
@[go_sem] theorem ft_sz3 : szOf prog 3 = 1 := by kernel_rfl
@[go_sem] theorem ft_pr3 : prim prog 3 = true := by kernel_rfl
@[go_sem] theorem ft_it3 : intT prog 3 = some .i64 := by kernel_rfl
@[go_sem] theorem ft_hz3 : hasZero prog 3 = true := by kernel_rfl
@[go_sem] theorem ft_by3 : bytesOf prog 3 = 8 := by kernel_rfl
@[go_sem] theorem ft_zo3 : zeroOf prog 3 = some (.int .i64 0) := by kernel_rfl
@[go_sem] theorem ft_sz4 : szOf prog 4 = 1 := by kernel_rfl
@[go_sem] theorem ft_pr4 : prim prog 4 = true := by kernel_rfl
@[go_sem] theorem ft_bo4 : isBoolT prog 4 = true := by kernel_rfl
@[go_sem] theorem ft_hz4 : hasZero prog 4 = true := by kernel_rfl
@[go_sem] theorem ft_by4 : bytesOf prog 4 = 1 := by kernel_rfl
@[go_sem] theorem ft_zo4 : zeroOf prog 4 = some (.bool false) := by kernel_rfl
@[go_sem] theorem ft_sz5 : szOf prog 5 = 1 := by kernel_rfl
@[go_sem] theorem ft_pr5 : prim prog 5 = true := by kernel_rfl
@[go_sem] theorem ft_it5 : intT prog 5 = some .u8 := by kernel_rfl
@[go_sem] theorem ft_hz5 : hasZero prog 5 = true := by kernel_rfl
@[go_sem] theorem ft_by5 : bytesOf prog 5 = 1 := by kernel_rfl
@[go_sem] theorem ft_zo5 : zeroOf prog 5 = some (.int .u8 0) := by kernel_rfl
@[go_sem] theorem ft_sz6 : szOf prog 6 = 1 := by kernel_rfl
@[go_sem] theorem ft_pr6 : prim prog 6 = true := by kernel_rfl
@[go_sem] theorem ft_it6 : intT prog 6 = some .u8 := by kernel_rfl
@[go_sem] theorem ft_hz6 : hasZero prog 6 = true := by kernel_rfl
@[go_sem] theorem ft_by6 : bytesOf prog 6 = 1 := by kernel_rfl
@[go_sem] theorem ft_zo6 : zeroOf prog 6 = some (.int .u8 0) := by kernel_rfl
@[go_sem] theorem ft_sz7 : szOf prog 7 = 4 := by kernel_rfl
@[go_sem] theorem ft_pr7 : prim prog 7 = false := by kernel_rfl
@[go_sem] theorem ft_sc7 : isStruct prog 7 = true := by kernel_rfl
@[go_sem] theorem ft_hz7 : hasZero prog 7 = true := by kernel_rfl
@[go_sem] theorem ft_by7 : bytesOf prog 7 = 24 := by kernel_rfl
@[go_sem] theorem ft_fl7 : flds prog 7 = some [2, 3, 4, 6] := by kernel_rfl
@[go_sem] theorem ft_zo7 : zeroOf prog 7 = some (.agg 7 [(.int .i64 0), (.int .i64 0), (.bool false), (.int .u8 0)]) := by kernel_rfl
@[go_sem] theorem ft_zi7 : zeroIs prog 7 = true := by kernel_rfl
@[go_sem] theorem ft_zf7 : zeroFs prog 7 = [(.int .i64 0), (.int .i64 0), (.bool false), (.int .u8 0)] := by kernel_rfl
@[go_sem] theorem ft_sz8 : szOf prog 8 = 4 := by kernel_rfl
@[go_sem] theorem ft_pr8 : prim prog 8 = false := by kernel_rfl
@[go_sem] theorem ft_sc8 : isStruct prog 8 = true := by kernel_rfl
@[go_sem] theorem ft_hz8 : hasZero prog 8 = true := by kernel_rfl
@[go_sem] theorem ft_by8 : bytesOf prog 8 = 24 := by kernel_rfl
@[go_sem] theorem ft_fl8 : flds prog 8 = some [2, 3, 4, 6] := by kernel_rfl
@[go_sem] theorem ft_zo8 : zeroOf prog 8 = some (.agg 8 [(.int .i64 0), (.int .i64 0), (.bool false), (.int .u8 0)]) := by kernel_rfl
@[go_sem] theorem ft_zi8 : zeroIs prog 8 = true := by kernel_rfl
@[go_sem] theorem ft_zf8 : zeroFs prog 8 = [(.int .i64 0), (.int .i64 0), (.bool false), (.int .u8 0)] := by kernel_rfl
@[go_sem] theorem ft_sz9 : szOf prog 9 = 1 := by kernel_rfl
@[go_sem] theorem ft_pr9 : prim prog 9 = true := by kernel_rfl
@[go_sem] theorem ft_st9 : isStrT prog 9 = true := by kernel_rfl
@[go_sem] theorem ft_it9 : intT prog 9 = none := by kernel_rfl
@[go_sem] theorem ft_hz9 : hasZero prog 9 = true := by kernel_rfl
@[go_sem] theorem ft_by9 : bytesOf prog 9 = 16 := by kernel_rfl
@[go_sem] theorem ft_zo9 : zeroOf prog 9 = some (.str []) := by kernel_rfl
@[go_sem] theorem ft_sz10 : szOf prog 10 = 1 := by kernel_rfl
@[go_sem] theorem ft_pr10 : prim prog 10 = true := by kernel_rfl
@[go_sem] theorem ft_st10 : isStrT prog 10 = true := by kernel_rfl
@[go_sem] theorem ft_it10 : intT prog 10 = none := by kernel_rfl
@[go_sem] theorem ft_hz10 : hasZero prog 10 = true := by kernel_rfl
@[go_sem] theorem ft_by10 : bytesOf prog 10 = 16 := by kernel_rfl
@[go_sem] theorem ft_zo10 : zeroOf prog 10 = some (.str []) := by kernel_rfl
@[go_sem] theorem ft_sz11 : szOf prog 11 = 1 := by kernel_rfl
@[go_sem] theorem ft_pr11 : prim prog 11 = true := by kernel_rfl
@[go_sem] theorem ft_st11 : isStrT prog 11 = true := by kernel_rfl
@[go_sem] theorem ft_it11 : intT prog 11 = none := by kernel_rfl
@[go_sem] theorem ft_hz11 : hasZero prog 11 = true := by kernel_rfl
@[go_sem] theorem ft_by11 : bytesOf prog 11 = 16 := by kernel_rfl
@[go_sem] theorem ft_zo11 : zeroOf prog 11 = some (.str []) := by kernel_rfl
@[go_sem] theorem ft_sz12 : szOf prog 12 = 1 := by kernel_rfl
@[go_sem] theorem ft_pr12 : prim prog 12 = true := by kernel_rfl
@[go_sem] theorem ft_it12 : intT prog 12 = some .u64 := by kernel_rfl
@[go_sem] theorem ft_hz12 : hasZero prog 12 = true := by kernel_rfl
@[go_sem] theorem ft_by12 : bytesOf prog 12 = 8 := by kernel_rfl
@[go_sem] theorem ft_zo12 : zeroOf prog 12 = some (.int .u64 0) := by kernel_rfl
@[go_sem] theorem ft_sz13 : szOf prog 13 = 2 := by kernel_rfl
@[go_sem] theorem ft_pr13 : prim prog 13 = false := by kernel_rfl
@[go_sem] theorem ft_sc13 : isStruct prog 13 = true := by kernel_rfl
@[go_sem] theorem ft_hz13 : hasZero prog 13 = true := by kernel_rfl
@[go_sem] theorem ft_by13 : bytesOf prog 13 = 24 := by kernel_rfl
@[go_sem] theorem ft_fl13 : flds prog 13 = some [9, 12] := by kernel_rfl
@[go_sem] theorem ft_zo13 : zeroOf prog 13 = some (.agg 13 [(.str []), (.int .u64 0)]) := by kernel_rfl
@[go_sem] theorem ft_zi13 : zeroIs prog 13 = true := by kernel_rfl
@[go_sem] theorem ft_zf13 : zeroFs prog 13 = [(.str []), (.int .u64 0)] := by kernel_rfl
@[go_sem] theorem ft_sz14 : szOf prog 14 = 2 := by kernel_rfl
@[go_sem] theorem ft_pr14 : prim prog 14 = false := by kernel_rfl
@[go_sem] theorem ft_sc14 : isStruct prog 14 = true := by kernel_rfl
@[go_sem] theorem ft_hz14 : hasZero prog 14 = true := by kernel_rfl
@[go_sem] theorem ft_by14 : bytesOf prog 14 = 24 := by kernel_rfl
@[go_sem] theorem ft_fl14 : flds prog 14 = some [9, 12] := by kernel_rfl
@[go_sem] theorem ft_zo14 : zeroOf prog 14 = some (.agg 14 [(.str []), (.int .u64 0)]) := by kernel_rfl
@[go_sem] theorem ft_zi14 : zeroIs prog 14 = true := by kernel_rfl
@[go_sem] theorem ft_zf14 : zeroFs prog 14 = [(.str []), (.int .u64 0)] := by kernel_rfl
@[go_sem] theorem ft_sz15 : szOf prog 15 = 1 := by kernel_rfl
@[go_sem] theorem ft_pr15 : prim prog 15 = true := by kernel_rfl
@[go_sem] theorem ft_pt15 : isPtrT prog 15 = true := by kernel_rfl
@[go_sem] theorem ft_hz15 : hasZero prog 15 = true := by kernel_rfl
@[go_sem] theorem ft_by15 : bytesOf prog 15 = 8 := by kernel_rfl
@[go_sem] theorem ft_zo15 : zeroOf prog 15 = some .nil := by kernel_rfl
@[go_sem] theorem ft_sz16 : szOf prog 16 = 1 := by kernel_rfl
@[go_sem] theorem ft_pr16 : prim prog 16 = true := by kernel_rfl
@[go_sem] theorem ft_pt16 : isPtrT prog 16 = true := by kernel_rfl
@[go_sem] theorem ft_hz16 : hasZero prog 16 = true := by kernel_rfl
@[go_sem] theorem ft_by16 : bytesOf prog 16 = 8 := by kernel_rfl
@[go_sem] theorem ft_zo16 : zeroOf prog 16 = some .nil := by kernel_rfl
@[go_sem] theorem ft_sz17 : szOf prog 17 = 1 := by kernel_rfl
@[go_sem] theorem ft_pr17 : prim prog 17 = true := by kernel_rfl
@[go_sem] theorem ft_pt17 : isPtrT prog 17 = true := by kernel_rfl
@[go_sem] theorem ft_hz17 : hasZero prog 17 = true := by kernel_rfl
@[go_sem] theorem ft_by17 : bytesOf prog 17 = 8 := by kernel_rfl
@[go_sem] theorem ft_zo17 : zeroOf prog 17 = some .nil := by kernel_rfl
@[go_sem] theorem ft_sz18 : szOf prog 18 = 1 := by kernel_rfl
@[go_sem] theorem ft_pr18 : prim prog 18 = false := by kernel_rfl
@[go_sem] theorem ft_sc18 : isStruct prog 18 = true := by kernel_rfl
@[go_sem] theorem ft_hz18 : hasZero prog 18 = true := by kernel_rfl
@[go_sem] theorem ft_by18 : bytesOf prog 18 = 8 := by kernel_rfl
@[go_sem] theorem ft_fl18 : flds prog 18 = some [17] := by kernel_rfl
@[go_sem] theorem ft_zo18 : zeroOf prog 18 = some (.agg 18 [.nil]) := by kernel_rfl
@[go_sem] theorem ft_zi18 : zeroIs prog 18 = true := by kernel_rfl
@[go_sem] theorem ft_zf18 : zeroFs prog 18 = [.nil] := by kernel_rfl
@[go_sem] theorem ft_sz19 : szOf prog 19 = 1 := by kernel_rfl
@[go_sem] theorem ft_pr19 : prim prog 19 = false := by kernel_rfl
@[go_sem] theorem ft_sc19 : isStruct prog 19 = true := by kernel_rfl
@[go_sem] theorem ft_hz19 : hasZero prog 19 = true := by kernel_rfl
@[go_sem] theorem ft_by19 : bytesOf prog 19 = 8 := by kernel_rfl
@[go_sem] theorem ft_fl19 : flds prog 19 = some [17] := by kernel_rfl
@[go_sem] theorem ft_zo19 : zeroOf prog 19 = some (.agg 19 [.nil]) := by kernel_rfl
@[go_sem] theorem ft_zi19 : zeroIs prog 19 = true := by kernel_rfl
@[go_sem] theorem ft_zf19 : zeroFs prog 19 = [.nil] := by kernel_rfl
@[go_sem] theorem ft_sz20 : szOf prog 20 = 1 := by kernel_rfl
@[go_sem] theorem ft_pr20 : prim prog 20 = true := by kernel_rfl
@[go_sem] theorem ft_hz20 : hasZero prog 20 = true := by kernel_rfl
@[go_sem] theorem ft_by20 : bytesOf prog 20 = 16 := by kernel_rfl
@[go_sem] theorem ft_sz21 : szOf prog 21 = 1 := by kernel_rfl
@[go_sem] theorem ft_pr21 : prim prog 21 = true := by kernel_rfl
@[go_sem] theorem ft_it21 : intT prog 21 = some .i32 := by kernel_rfl
@[go_sem] theorem ft_hz21 : hasZero prog 21 = true := by kernel_rfl
@[go_sem] theorem ft_by21 : bytesOf prog 21 = 4 := by kernel_rfl
@[go_sem] theorem ft_zo21 : zeroOf prog 21 = some (.int .i32 0) := by kernel_rfl
@[go_sem] theorem ft_sz22 : szOf prog 22 = 1 := by kernel_rfl
@[go_sem] theorem ft_pr22 : prim prog 22 = true := by kernel_rfl
@[go_sem] theorem ft_el22 : elT prog 22 = some 56 := by kernel_rfl
@[go_sem] theorem ft_hz22 : hasZero prog 22 = true := by kernel_rfl
@[go_sem] theorem ft_by22 : bytesOf prog 22 = 24 := by kernel_rfl
@[go_sem] theorem ft_zo22 : zeroOf prog 22 = some .nils := by kernel_rfl
@[go_sem] theorem ft_sz23 : szOf prog 23 = 1 := by kernel_rfl
@[go_sem] theorem ft_pr23 : prim prog 23 = true := by kernel_rfl
@[go_sem] theorem ft_hz23 : hasZero prog 23 = true := by kernel_rfl
@[go_sem] theorem ft_by23 : bytesOf prog 23 = 8 := by kernel_rfl
@[go_sem] theorem ft_sz24 : szOf prog 24 = 1 := by kernel_rfl
@[go_sem] theorem ft_pr24 : prim prog 24 = true := by kernel_rfl
@[go_sem] theorem ft_hz24 : hasZero prog 24 = true := by kernel_rfl
@[go_sem] theorem ft_by24 : bytesOf prog 24 = 8 := by kernel_rfl
@[go_sem] theorem ft_sz25 : szOf prog 25 = 1 := by kernel_rfl
@[go_sem] theorem ft_pr25 : prim prog 25 = true := by kernel_rfl
@[go_sem] theorem ft_el25 : elT prog 25 = some 40 := by kernel_rfl
@[go_sem] theorem ft_hz25 : hasZero prog 25 = true := by kernel_rfl
@[go_sem] theorem ft_by25 : bytesOf prog 25 = 24 := by kernel_rfl
@[go_sem] theorem ft_zo25 : zeroOf prog 25 = some .nils := by kernel_rfl
@[go_sem] theorem ft_sz26 : szOf prog 26 = 1 := by kernel_rfl
@[go_sem] theorem ft_pr26 : prim prog 26 = true := by kernel_rfl
@[go_sem] theorem ft_it26 : intT prog 26 = some .i64 := by kernel_rfl
@[go_sem] theorem ft_hz26 : hasZero prog 26 = true := by kernel_rfl
@[go_sem] theorem ft_by26 : bytesOf prog 26 = 8 := by kernel_rfl
@[go_sem] theorem ft_zo26 : zeroOf prog 26 = some (.int .i64 0) := by kernel_rfl
@[go_sem] theorem ft_sz27 : szOf prog 27 = 1 := by kernel_rfl
@[go_sem] theorem ft_pr27 : prim prog 27 = true := by kernel_rfl
@[go_sem] theorem ft_hz27 : hasZero prog 27 = true := by kernel_rfl
@[go_sem] theorem ft_by27 : bytesOf prog 27 = 0 := by kernel_rfl
@[go_sem] theorem ft_sz28 : szOf prog 28 = 1 := by kernel_rfl
@[go_sem] theorem ft_pr28 : prim prog 28 = true := by kernel_rfl
@[go_sem] theorem ft_hz28 : hasZero prog 28 = true := by kernel_rfl
@[go_sem] theorem ft_by28 : bytesOf prog 28 = 8 := by kernel_rfl
@[go_sem] theorem ft_sz29 : szOf prog 29 = 1 := by kernel_rfl
@[go_sem] theorem ft_pr29 : prim prog 29 = true := by kernel_rfl
@[go_sem] theorem ft_hz29 : hasZero prog 29 = true := by kernel_rfl
@[go_sem] theorem ft_by29 : bytesOf prog 29 = 8 := by kernel_rfl
@[go_sem] theorem ft_sz30 : szOf prog 30 = 1 := by kernel_rfl
@[go_sem] theorem ft_pr30 : prim prog 30 = true := by kernel_rfl
@[go_sem] theorem ft_hz30 : hasZero prog 30 = true := by kernel_rfl
@[go_sem] theorem ft_by30 : bytesOf prog 30 = 0 := by kernel_rfl
@[go_sem] theorem ft_sz31 : szOf prog 31 = 1 := by kernel_rfl
@[go_sem] theorem ft_pr31 : prim prog 31 = true := by kernel_rfl
@[go_sem] theorem ft_hz31 : hasZero prog 31 = true := by kernel_rfl
@[go_sem] theorem ft_by31 : bytesOf prog 31 = 8 := by kernel_rfl
@[go_sem] theorem ft_sz32 : szOf prog 32 = 1 := by kernel_rfl
@[go_sem] theorem ft_pr32 : prim prog 32 = true := by kernel_rfl
@[go_sem] theorem ft_hz32 : hasZero prog 32 = true := by kernel_rfl
@[go_sem] theorem ft_by32 : bytesOf prog 32 = 8 := by kernel_rfl
@[go_sem] theorem ft_sz33 : szOf prog 33 = 1 := by kernel_rfl
@[go_sem] theorem ft_pr33 : prim prog 33 = true := by kernel_rfl
@[go_sem] theorem ft_hz33 : hasZero prog 33 = true := by kernel_rfl
@[go_sem] theorem ft_by33 : bytesOf prog 33 = 8 := by kernel_rfl
@[go_sem] theorem ft_sz34 : szOf prog 34 = 1 := by kernel_rfl
@[go_sem] theorem ft_pr34 : prim prog 34 = true := by kernel_rfl
@[go_sem] theorem ft_hz34 : hasZero prog 34 = true := by kernel_rfl
@[go_sem] theorem ft_by34 : bytesOf prog 34 = 8 := by kernel_rfl
@[go_sem] theorem ft_sz35 : szOf prog 35 = 1 := by kernel_rfl
@[go_sem] theorem ft_pr35 : prim prog 35 = true := by kernel_rfl
@[go_sem] theorem ft_hz35 : hasZero prog 35 = true := by kernel_rfl
@[go_sem] theorem ft_by35 : bytesOf prog 35 = 8 := by kernel_rfl
@[go_sem] theorem ft_sz36 : szOf prog 36 = 1 := by kernel_rfl
@[go_sem] theorem ft_pr36 : prim prog 36 = true := by kernel_rfl
@[go_sem] theorem ft_el36 : elT prog 36 = some 4 := by kernel_rfl
@[go_sem] theorem ft_hz36 : hasZero prog 36 = true := by kernel_rfl
@[go_sem] theorem ft_by36 : bytesOf prog 36 = 24 := by kernel_rfl
@[go_sem] theorem ft_zo36 : zeroOf prog 36 = some .nils := by kernel_rfl
@[go_sem] theorem ft_sz37 : szOf prog 37 = 1 := by kernel_rfl
@[go_sem] theorem ft_pr37 : prim prog 37 = true := by kernel_rfl
@[go_sem] theorem ft_el37 : elT prog 37 = some 3 := by kernel_rfl
@[go_sem] theorem ft_hz37 : hasZero prog 37 = true := by kernel_rfl
@[go_sem] theorem ft_by37 : bytesOf prog 37 = 24 := by kernel_rfl
@[go_sem] theorem ft_zo37 : zeroOf prog 37 = some .nils := by kernel_rfl
@[go_sem] theorem ft_sz38 : szOf prog 38 = 1 := by kernel_rfl
@[go_sem] theorem ft_pr38 : prim prog 38 = true := by kernel_rfl
@[go_sem] theorem ft_hz38 : hasZero prog 38 = true := by kernel_rfl
@[go_sem] theorem ft_by38 : bytesOf prog 38 = 8 := by kernel_rfl
@[go_sem] theorem ft_sz39 : szOf prog 39 = 3 := by kernel_rfl
@[go_sem] theorem ft_pr39 : prim prog 39 = false := by kernel_rfl
@[go_sem] theorem ft_sc39 : isStruct prog 39 = true := by kernel_rfl
@[go_sem] theorem ft_hz39 : hasZero prog 39 = true := by kernel_rfl
@[go_sem] theorem ft_by39 : bytesOf prog 39 = 24 := by kernel_rfl
@[go_sem] theorem ft_fl39 : flds prog 39 = some [3, 3, 3] := by kernel_rfl
@[go_sem] theorem ft_zo39 : zeroOf prog 39 = some (.agg 39 [(.int .i64 0), (.int .i64 0), (.int .i64 0)]) := by kernel_rfl
@[go_sem] theorem ft_zi39 : zeroIs prog 39 = true := by kernel_rfl
@[go_sem] theorem ft_zf39 : zeroFs prog 39 = [(.int .i64 0), (.int .i64 0), (.int .i64 0)] := by kernel_rfl
@[go_sem] theorem ft_sz40 : szOf prog 40 = 3 := by kernel_rfl
@[go_sem] theorem ft_pr40 : prim prog 40 = false := by kernel_rfl
@[go_sem] theorem ft_sc40 : isStruct prog 40 = true := by kernel_rfl
@[go_sem] theorem ft_hz40 : hasZero prog 40 = true := by kernel_rfl
@[go_sem] theorem ft_by40 : bytesOf prog 40 = 24 := by kernel_rfl
@[go_sem] theorem ft_fl40 : flds prog 40 = some [3, 3, 3] := by kernel_rfl
@[go_sem] theorem ft_zo40 : zeroOf prog 40 = some (.agg 40 [(.int .i64 0), (.int .i64 0), (.int .i64 0)]) := by kernel_rfl
@[go_sem] theorem ft_zi40 : zeroIs prog 40 = true := by kernel_rfl
@[go_sem] theorem ft_zf40 : zeroFs prog 40 = [(.int .i64 0), (.int .i64 0), (.int .i64 0)] := by kernel_rfl
@[go_sem] theorem ft_sz41 : szOf prog 41 = 1 := by kernel_rfl
@[go_sem] theorem ft_pr41 : prim prog 41 = true := by kernel_rfl
@[go_sem] theorem ft_hz41 : hasZero prog 41 = true := by kernel_rfl
@[go_sem] theorem ft_by41 : bytesOf prog 41 = 8 := by kernel_rfl
@[go_sem] theorem ft_sz42 : szOf prog 42 = 1 := by kernel_rfl
@[go_sem] theorem ft_pr42 : prim prog 42 = true := by kernel_rfl
@[go_sem] theorem ft_hz42 : hasZero prog 42 = true := by kernel_rfl
@[go_sem] theorem ft_by42 : bytesOf prog 42 = 8 := by kernel_rfl
@[go_sem] theorem ft_sz43 : szOf prog 43 = 1 := by kernel_rfl
@[go_sem] theorem ft_pr43 : prim prog 43 = true := by kernel_rfl
@[go_sem] theorem ft_hz43 : hasZero prog 43 = true := by kernel_rfl
@[go_sem] theorem ft_by43 : bytesOf prog 43 = 0 := by kernel_rfl
@[go_sem] theorem ft_sz44 : szOf prog 44 = 1 := by kernel_rfl
@[go_sem] theorem ft_pr44 : prim prog 44 = true := by kernel_rfl
@[go_sem] theorem ft_hz44 : hasZero prog 44 = true := by kernel_rfl
@[go_sem] theorem ft_by44 : bytesOf prog 44 = 8 := by kernel_rfl
@[go_sem] theorem ft_sz45 : szOf prog 45 = 1 := by kernel_rfl
@[go_sem] theorem ft_pr45 : prim prog 45 = true := by kernel_rfl
@[go_sem] theorem ft_hz45 : hasZero prog 45 = true := by kernel_rfl
@[go_sem] theorem ft_by45 : bytesOf prog 45 = 8 := by kernel_rfl
@[go_sem] theorem ft_sz46 : szOf prog 46 = 1 := by kernel_rfl
@[go_sem] theorem ft_pr46 : prim prog 46 = true := by kernel_rfl
@[go_sem] theorem ft_hz46 : hasZero prog 46 = true := by kernel_rfl
@[go_sem] theorem ft_by46 : bytesOf prog 46 = 8 := by kernel_rfl
@[go_sem] theorem ft_sz47 : szOf prog 47 = 1 := by kernel_rfl
@[go_sem] theorem ft_pr47 : prim prog 47 = true := by kernel_rfl
@[go_sem] theorem ft_hz47 : hasZero prog 47 = true := by kernel_rfl
@[go_sem] theorem ft_by47 : bytesOf prog 47 = 8 := by kernel_rfl
@[go_sem] theorem ft_sz48 : szOf prog 48 = 1 := by kernel_rfl
@[go_sem] theorem ft_pr48 : prim prog 48 = true := by kernel_rfl
@[go_sem] theorem ft_hz48 : hasZero prog 48 = true := by kernel_rfl
@[go_sem] theorem ft_by48 : bytesOf prog 48 = 8 := by kernel_rfl
@[go_sem] theorem ft_sz49 : szOf prog 49 = 3 := by kernel_rfl
@[go_sem] theorem ft_pr49 : prim prog 49 = false := by kernel_rfl
@[go_sem] theorem ft_sc49 : isStruct prog 49 = true := by kernel_rfl
@[go_sem] theorem ft_hz49 : hasZero prog 49 = true := by kernel_rfl
@[go_sem] theorem ft_by49 : bytesOf prog 49 = 40 := by kernel_rfl
@[go_sem] theorem ft_fl49 : flds prog 49 = some [9, 3, 9] := by kernel_rfl
@[go_sem] theorem ft_zo49 : zeroOf prog 49 = some (.agg 49 [(.str []), (.int .i64 0), (.str [])]) := by kernel_rfl
@[go_sem] theorem ft_zi49 : zeroIs prog 49 = true := by kernel_rfl
@[go_sem] theorem ft_zf49 : zeroFs prog 49 = [(.str []), (.int .i64 0), (.str [])] := by kernel_rfl
@[go_sem] theorem ft_sz50 : szOf prog 50 = 3 := by kernel_rfl
@[go_sem] theorem ft_pr50 : prim prog 50 = false := by kernel_rfl
@[go_sem] theorem ft_sc50 : isStruct prog 50 = true := by kernel_rfl
@[go_sem] theorem ft_hz50 : hasZero prog 50 = true := by kernel_rfl
@[go_sem] theorem ft_by50 : bytesOf prog 50 = 40 := by kernel_rfl
@[go_sem] theorem ft_fl50 : flds prog 50 = some [9, 3, 9] := by kernel_rfl
@[go_sem] theorem ft_zo50 : zeroOf prog 50 = some (.agg 50 [(.str []), (.int .i64 0), (.str [])]) := by kernel_rfl
@[go_sem] theorem ft_zi50 : zeroIs prog 50 = true := by kernel_rfl
@[go_sem] theorem ft_zf50 : zeroFs prog 50 = [(.str []), (.int .i64 0), (.str [])] := by kernel_rfl
@[go_sem] theorem ft_sz51 : szOf prog 51 = 1 := by kernel_rfl
@[go_sem] theorem ft_pr51 : prim prog 51 = true := by kernel_rfl
@[go_sem] theorem ft_el51 : elT prog 51 = some 50 := by kernel_rfl
@[go_sem] theorem ft_hz51 : hasZero prog 51 = true := by kernel_rfl
@[go_sem] theorem ft_by51 : bytesOf prog 51 = 24 := by kernel_rfl
@[go_sem] theorem ft_zo51 : zeroOf prog 51 = some .nils := by kernel_rfl
@[go_sem] theorem ft_sz52 : szOf prog 52 = 1 := by kernel_rfl
@[go_sem] theorem ft_pr52 : prim prog 52 = true := by kernel_rfl
@[go_sem] theorem ft_el52 : elT prog 52 = some 50 := by kernel_rfl
@[go_sem] theorem ft_hz52 : hasZero prog 52 = true := by kernel_rfl
@[go_sem] theorem ft_by52 : bytesOf prog 52 = 24 := by kernel_rfl
@[go_sem] theorem ft_zo52 : zeroOf prog 52 = some .nils := by kernel_rfl
@[go_sem] theorem ft_sz53 : szOf prog 53 = 1 := by kernel_rfl
@[go_sem] theorem ft_pr53 : prim prog 53 = true := by kernel_rfl
@[go_sem] theorem ft_el53 : elT prog 53 = some 52 := by kernel_rfl
@[go_sem] theorem ft_hz53 : hasZero prog 53 = true := by kernel_rfl
@[go_sem] theorem ft_by53 : bytesOf prog 53 = 24 := by kernel_rfl
@[go_sem] theorem ft_zo53 : zeroOf prog 53 = some .nils := by kernel_rfl
@[go_sem] theorem ft_sz54 : szOf prog 54 = 1 := by kernel_rfl
@[go_sem] theorem ft_pr54 : prim prog 54 = true := by kernel_rfl
@[go_sem] theorem ft_el54 : elT prog 54 = some 112 := by kernel_rfl
@[go_sem] theorem ft_hz54 : hasZero prog 54 = true := by kernel_rfl
@[go_sem] theorem ft_by54 : bytesOf prog 54 = 24 := by kernel_rfl
@[go_sem] theorem ft_zo54 : zeroOf prog 54 = some .nils := by kernel_rfl
@[go_sem] theorem ft_sz55 : szOf prog 55 = 9 := by kernel_rfl
@[go_sem] theorem ft_pr55 : prim prog 55 = false := by kernel_rfl
@[go_sem] theorem ft_sc55 : isStruct prog 55 = true := by kernel_rfl
@[go_sem] theorem ft_hz55 : hasZero prog 55 = true := by kernel_rfl
@[go_sem] theorem ft_by55 : bytesOf prog 55 = 184 := by kernel_rfl
@[go_sem] theorem ft_fl55 : flds prog 55 = some [9, 9, 53, 53, 53, 51, 51, 54, 4] := by kernel_rfl
@[go_sem] theorem ft_zo55 : zeroOf prog 55 = some (.agg 55 [(.str []), (.str []), .nils, .nils, .nils, .nils, .nils, .nils, (.bool false)]) := by kernel_rfl
@[go_sem] theorem ft_zi55 : zeroIs prog 55 = true := by kernel_rfl
@[go_sem] theorem ft_zf55 : zeroFs prog 55 = [(.str []), (.str []), .nils, .nils, .nils, .nils, .nils, .nils, (.bool false)] := by kernel_rfl
@[go_sem] theorem ft_sz56 : szOf prog 56 = 9 := by kernel_rfl
@[go_sem] theorem ft_pr56 : prim prog 56 = false := by kernel_rfl
@[go_sem] theorem ft_sc56 : isStruct prog 56 = true := by kernel_rfl
@[go_sem] theorem ft_hz56 : hasZero prog 56 = true := by kernel_rfl
@[go_sem] theorem ft_by56 : bytesOf prog 56 = 184 := by kernel_rfl
@[go_sem] theorem ft_fl56 : flds prog 56 = some [9, 9, 53, 53, 53, 51, 51, 54, 4] := by kernel_rfl
@[go_sem] theorem ft_zo56 : zeroOf prog 56 = some (.agg 56 [(.str []), (.str []), .nils, .nils, .nils, .nils, .nils, .nils, (.bool false)]) := by kernel_rfl
@[go_sem] theorem ft_zi56 : zeroIs prog 56 = true := by kernel_rfl
@[go_sem] theorem ft_zf56 : zeroFs prog 56 = [(.str []), (.str []), .nils, .nils, .nils, .nils, .nils, .nils, (.bool false)] := by kernel_rfl
@[go_sem] theorem ft_sz57 : szOf prog 57 = 1 := by kernel_rfl
@[go_sem] theorem ft_pr57 : prim prog 57 = true := by kernel_rfl
@[go_sem] theorem ft_el57 : elT prog 57 = some 60 := by kernel_rfl
@[go_sem] theorem ft_hz57 : hasZero prog 57 = true := by kernel_rfl
@[go_sem] theorem ft_by57 : bytesOf prog 57 = 24 := by kernel_rfl
@[go_sem] theorem ft_zo57 : zeroOf prog 57 = some .nils := by kernel_rfl
@[go_sem] theorem ft_sz58 : szOf prog 58 = 1 := by kernel_rfl
@[go_sem] theorem ft_pr58 : prim prog 58 = true := by kernel_rfl
@[go_sem] theorem ft_hz58 : hasZero prog 58 = true := by kernel_rfl
@[go_sem] theorem ft_by58 : bytesOf prog 58 = 8 := by kernel_rfl
@[go_sem] theorem ft_sz59 : szOf prog 59 = 4 := by kernel_rfl
@[go_sem] theorem ft_pr59 : prim prog 59 = false := by kernel_rfl
@[go_sem] theorem ft_sc59 : isStruct prog 59 = true := by kernel_rfl
@[go_sem] theorem ft_hz59 : hasZero prog 59 = true := by kernel_rfl
@[go_sem] theorem ft_by59 : bytesOf prog 59 = 48 := by kernel_rfl
@[go_sem] theorem ft_fl59 : flds prog 59 = some [40, 37] := by kernel_rfl
@[go_sem] theorem ft_zo59 : zeroOf prog 59 = some (.agg 59 [(.agg 40 [(.int .i64 0), (.int .i64 0), (.int .i64 0)]), .nils]) := by kernel_rfl
@[go_sem] theorem ft_zi59 : zeroIs prog 59 = true := by kernel_rfl
@[go_sem] theorem ft_zf59 : zeroFs prog 59 = [(.agg 40 [(.int .i64 0), (.int .i64 0), (.int .i64 0)]), .nils] := by kernel_rfl
@[go_sem] theorem ft_sz60 : szOf prog 60 = 4 := by kernel_rfl
@[go_sem] theorem ft_pr60 : prim prog 60 = false := by kernel_rfl
@[go_sem] theorem ft_sc60 : isStruct prog 60 = true := by kernel_rfl
@[go_sem] theorem ft_hz60 : hasZero prog 60 = true := by kernel_rfl
@[go_sem] theorem ft_by60 : bytesOf prog 60 = 48 := by kernel_rfl
@[go_sem] theorem ft_fl60 : flds prog 60 = some [40, 37] := by kernel_rfl
@[go_sem] theorem ft_zo60 : zeroOf prog 60 = some (.agg 60 [(.agg 40 [(.int .i64 0), (.int .i64 0), (.int .i64 0)]), .nils]) := by kernel_rfl
@[go_sem] theorem ft_zi60 : zeroIs prog 60 = true := by kernel_rfl
@[go_sem] theorem ft_zf60 : zeroFs prog 60 = [(.agg 40 [(.int .i64 0), (.int .i64 0), (.int .i64 0)]), .nils] := by kernel_rfl
@[go_sem] theorem ft_sz61 : szOf prog 61 = 1 := by kernel_rfl
@[go_sem] theorem ft_pr61 : prim prog 61 = true := by kernel_rfl
@[go_sem] theorem ft_hz61 : hasZero prog 61 = true := by kernel_rfl
@[go_sem] theorem ft_by61 : bytesOf prog 61 = 8 := by kernel_rfl
@[go_sem] theorem ft_sz62 : szOf prog 62 = 1 := by kernel_rfl
@[go_sem] theorem ft_pr62 : prim prog 62 = true := by kernel_rfl
@[go_sem] theorem ft_hz62 : hasZero prog 62 = true := by kernel_rfl
@[go_sem] theorem ft_by62 : bytesOf prog 62 = 8 := by kernel_rfl
@[go_sem] theorem ft_sz63 : szOf prog 63 = 1 := by kernel_rfl
@[go_sem] theorem ft_pr63 : prim prog 63 = true := by kernel_rfl
@[go_sem] theorem ft_hz63 : hasZero prog 63 = true := by kernel_rfl
@[go_sem] theorem ft_by63 : bytesOf prog 63 = 8 := by kernel_rfl
@[go_sem] theorem ft_sz64 : szOf prog 64 = 1 := by kernel_rfl
@[go_sem] theorem ft_pr64 : prim prog 64 = true := by kernel_rfl
@[go_sem] theorem ft_hz64 : hasZero prog 64 = true := by kernel_rfl
@[go_sem] theorem ft_by64 : bytesOf prog 64 = 8 := by kernel_rfl
@[go_sem] theorem ft_sz65 : szOf prog 65 = 1 := by kernel_rfl
@[go_sem] theorem ft_pr65 : prim prog 65 = true := by kernel_rfl
@[go_sem] theorem ft_el65 : elT prog 65 = some 9 := by kernel_rfl
@[go_sem] theorem ft_hz65 : hasZero prog 65 = true := by kernel_rfl
@[go_sem] theorem ft_by65 : bytesOf prog 65 = 24 := by kernel_rfl
@[go_sem] theorem ft_zo65 : zeroOf prog 65 = some .nils := by kernel_rfl
@[go_sem] theorem ft_sz66 : szOf prog 66 = 1 := by kernel_rfl
@[go_sem] theorem ft_pr66 : prim prog 66 = true := by kernel_rfl
@[go_sem] theorem ft_hz66 : hasZero prog 66 = true := by kernel_rfl
@[go_sem] theorem ft_by66 : bytesOf prog 66 = 8 := by kernel_rfl
@[go_sem] theorem ft_sz67 : szOf prog 67 = 1 := by kernel_rfl
@[go_sem] theorem ft_pr67 : prim prog 67 = true := by kernel_rfl
@[go_sem] theorem ft_hz67 : hasZero prog 67 = true := by kernel_rfl
@[go_sem] theorem ft_by67 : bytesOf prog 67 = 8 := by kernel_rfl
@[go_sem] theorem ft_sz68 : szOf prog 68 = 5 := by kernel_rfl
@[go_sem] theorem ft_pr68 : prim prog 68 = false := by kernel_rfl
@[go_sem] theorem ft_hz68 : hasZero prog 68 = true := by kernel_rfl
@[go_sem] theorem ft_by68 : bytesOf prog 68 = 40 := by kernel_rfl
@[go_sem] theorem ft_ar68 : arrT prog 68 = some 3 := by kernel_rfl
@[go_sem] theorem ft_fl68 : flds prog 68 = some [3, 3, 3, 3, 3] := by kernel_rfl
@[go_sem] theorem ft_zo68 : zeroOf prog 68 = some (.agg 68 [(.int .i64 0), (.int .i64 0), (.int .i64 0), (.int .i64 0), (.int .i64 0)]) := by kernel_rfl
@[go_sem] theorem ft_zi68 : zeroIs prog 68 = true := by kernel_rfl
@[go_sem] theorem ft_zf68 : zeroFs prog 68 = [(.int .i64 0), (.int .i64 0), (.int .i64 0), (.int .i64 0), (.int .i64 0)] := by kernel_rfl
@[go_sem] theorem ft_sz69 : szOf prog 69 = 3 := by kernel_rfl
@[go_sem] theorem ft_pr69 : prim prog 69 = false := by kernel_rfl
@[go_sem] theorem ft_hz69 : hasZero prog 69 = true := by kernel_rfl
@[go_sem] theorem ft_by69 : bytesOf prog 69 = 72 := by kernel_rfl
@[go_sem] theorem ft_ar69 : arrT prog 69 = some 53 := by kernel_rfl
@[go_sem] theorem ft_fl69 : flds prog 69 = some [53, 53, 53] := by kernel_rfl
@[go_sem] theorem ft_zo69 : zeroOf prog 69 = some (.agg 69 [.nils, .nils, .nils]) := by kernel_rfl
@[go_sem] theorem ft_zi69 : zeroIs prog 69 = true := by kernel_rfl
@[go_sem] theorem ft_zf69 : zeroFs prog 69 = [.nils, .nils, .nils] := by kernel_rfl
@[go_sem] theorem ft_sz70 : szOf prog 70 = 1 := by kernel_rfl
@[go_sem] theorem ft_pr70 : prim prog 70 = true := by kernel_rfl
@[go_sem] theorem ft_hz70 : hasZero prog 70 = true := by kernel_rfl
@[go_sem] theorem ft_by70 : bytesOf prog 70 = 8 := by kernel_rfl
@[go_sem] theorem ft_sz71 : szOf prog 71 = 1 := by kernel_rfl
@[go_sem] theorem ft_pr71 : prim prog 71 = true := by kernel_rfl
@[go_sem] theorem ft_hz71 : hasZero prog 71 = true := by kernel_rfl
@[go_sem] theorem ft_by71 : bytesOf prog 71 = 8 := by kernel_rfl
@[go_sem] theorem ft_sz72 : szOf prog 72 = 1 := by kernel_rfl
@[go_sem] theorem ft_pr72 : prim prog 72 = true := by kernel_rfl
@[go_sem] theorem ft_hz72 : hasZero prog 72 = true := by kernel_rfl
@[go_sem] theorem ft_by72 : bytesOf prog 72 = 8 := by kernel_rfl
@[go_sem] theorem ft_sz73 : szOf prog 73 = 1 := by kernel_rfl
@[go_sem] theorem ft_pr73 : prim prog 73 = true := by kernel_rfl
@[go_sem] theorem ft_hz73 : hasZero prog 73 = true := by kernel_rfl
@[go_sem] theorem ft_by73 : bytesOf prog 73 = 8 := by kernel_rfl
@[go_sem] theorem ft_sz74 : szOf prog 74 = 1 := by kernel_rfl
@[go_sem] theorem ft_pr74 : prim prog 74 = true := by kernel_rfl
@[go_sem] theorem ft_hz74 : hasZero prog 74 = true := by kernel_rfl
@[go_sem] theorem ft_by74 : bytesOf prog 74 = 8 := by kernel_rfl
@[go_sem] theorem ft_sz75 : szOf prog 75 = 1 := by kernel_rfl
@[go_sem] theorem ft_pr75 : prim prog 75 = true := by kernel_rfl
@[go_sem] theorem ft_hz75 : hasZero prog 75 = true := by kernel_rfl
@[go_sem] theorem ft_by75 : bytesOf prog 75 = 8 := by kernel_rfl
@[go_sem] theorem ft_sz76 : szOf prog 76 = 1 := by kernel_rfl
@[go_sem] theorem ft_pr76 : prim prog 76 = true := by kernel_rfl
@[go_sem] theorem ft_hz76 : hasZero prog 76 = true := by kernel_rfl
@[go_sem] theorem ft_by76 : bytesOf prog 76 = 8 := by kernel_rfl
@[go_sem] theorem ft_sz77 : szOf prog 77 = 1 := by kernel_rfl
@[go_sem] theorem ft_pr77 : prim prog 77 = true := by kernel_rfl
@[go_sem] theorem ft_hz77 : hasZero prog 77 = true := by kernel_rfl
@[go_sem] theorem ft_by77 : bytesOf prog 77 = 8 := by kernel_rfl
@[go_sem] theorem ft_sz78 : szOf prog 78 = 1 := by kernel_rfl
@[go_sem] theorem ft_pr78 : prim prog 78 = true := by kernel_rfl
@[go_sem] theorem ft_hz78 : hasZero prog 78 = true := by kernel_rfl
@[go_sem] theorem ft_by78 : bytesOf prog 78 = 8 := by kernel_rfl
@[go_sem] theorem ft_sz79 : szOf prog 79 = 1 := by kernel_rfl
@[go_sem] theorem ft_pr79 : prim prog 79 = true := by kernel_rfl
@[go_sem] theorem ft_hz79 : hasZero prog 79 = true := by kernel_rfl
@[go_sem] theorem ft_by79 : bytesOf prog 79 = 8 := by kernel_rfl
@[go_sem] theorem ft_sz80 : szOf prog 80 = 1 := by kernel_rfl
@[go_sem] theorem ft_pr80 : prim prog 80 = true := by kernel_rfl
@[go_sem] theorem ft_hz80 : hasZero prog 80 = true := by kernel_rfl
@[go_sem] theorem ft_by80 : bytesOf prog 80 = 8 := by kernel_rfl
@[go_sem] theorem ft_sz81 : szOf prog 81 = 1 := by kernel_rfl
@[go_sem] theorem ft_pr81 : prim prog 81 = true := by kernel_rfl
@[go_sem] theorem ft_hz81 : hasZero prog 81 = true := by kernel_rfl
@[go_sem] theorem ft_by81 : bytesOf prog 81 = 8 := by kernel_rfl
@[go_sem] theorem ft_sz82 : szOf prog 82 = 1 := by kernel_rfl
@[go_sem] theorem ft_pr82 : prim prog 82 = true := by kernel_rfl
@[go_sem] theorem ft_hz82 : hasZero prog 82 = true := by kernel_rfl
@[go_sem] theorem ft_by82 : bytesOf prog 82 = 8 := by kernel_rfl
@[go_sem] theorem ft_sz83 : szOf prog 83 = 1 := by kernel_rfl
@[go_sem] theorem ft_pr83 : prim prog 83 = true := by kernel_rfl
@[go_sem] theorem ft_hz83 : hasZero prog 83 = true := by kernel_rfl
@[go_sem] theorem ft_by83 : bytesOf prog 83 = 8 := by kernel_rfl
@[go_sem] theorem ft_sz84 : szOf prog 84 = 1 := by kernel_rfl
@[go_sem] theorem ft_pr84 : prim prog 84 = true := by kernel_rfl
@[go_sem] theorem ft_hz84 : hasZero prog 84 = true := by kernel_rfl
@[go_sem] theorem ft_by84 : bytesOf prog 84 = 0 := by kernel_rfl
@[go_sem] theorem ft_sz85 : szOf prog 85 = 1 := by kernel_rfl
@[go_sem] theorem ft_pr85 : prim prog 85 = true := by kernel_rfl
@[go_sem] theorem ft_hz85 : hasZero prog 85 = true := by kernel_rfl
@[go_sem] theorem ft_by85 : bytesOf prog 85 = 8 := by kernel_rfl
@[go_sem] theorem ft_sz86 : szOf prog 86 = 1 := by kernel_rfl
@[go_sem] theorem ft_pr86 : prim prog 86 = true := by kernel_rfl
@[go_sem] theorem ft_pt86 : isPtrT prog 86 = true := by kernel_rfl
@[go_sem] theorem ft_hz86 : hasZero prog 86 = true := by kernel_rfl
@[go_sem] theorem ft_by86 : bytesOf prog 86 = 8 := by kernel_rfl
@[go_sem] theorem ft_zo86 : zeroOf prog 86 = some .nil := by kernel_rfl
@[go_sem] theorem ft_sz87 : szOf prog 87 = 1 := by kernel_rfl
@[go_sem] theorem ft_pr87 : prim prog 87 = true := by kernel_rfl
@[go_sem] theorem ft_hz87 : hasZero prog 87 = true := by kernel_rfl
@[go_sem] theorem ft_by87 : bytesOf prog 87 = 8 := by kernel_rfl
@[go_sem] theorem ft_sz88 : szOf prog 88 = 1 := by kernel_rfl
@[go_sem] theorem ft_pr88 : prim prog 88 = true := by kernel_rfl
@[go_sem] theorem ft_it88 : intT prog 88 = some .i64 := by kernel_rfl
@[go_sem] theorem ft_hz88 : hasZero prog 88 = true := by kernel_rfl
@[go_sem] theorem ft_by88 : bytesOf prog 88 = 8 := by kernel_rfl
@[go_sem] theorem ft_zo88 : zeroOf prog 88 = some (.int .i64 0) := by kernel_rfl
@[go_sem] theorem ft_sz89 : szOf prog 89 = 1 := by kernel_rfl
@[go_sem] theorem ft_pr89 : prim prog 89 = true := by kernel_rfl
@[go_sem] theorem ft_hz89 : hasZero prog 89 = true := by kernel_rfl
@[go_sem] theorem ft_by89 : bytesOf prog 89 = 8 := by kernel_rfl
@[go_sem] theorem ft_sz90 : szOf prog 90 = 1 := by kernel_rfl
@[go_sem] theorem ft_pr90 : prim prog 90 = true := by kernel_rfl
@[go_sem] theorem ft_el90 : elT prog 90 = some 88 := by kernel_rfl
@[go_sem] theorem ft_hz90 : hasZero prog 90 = true := by kernel_rfl
@[go_sem] theorem ft_by90 : bytesOf prog 90 = 24 := by kernel_rfl
@[go_sem] theorem ft_zo90 : zeroOf prog 90 = some .nils := by kernel_rfl
@[go_sem] theorem ft_sz91 : szOf prog 91 = 1 := by kernel_rfl
@[go_sem] theorem ft_pr91 : prim prog 91 = true := by kernel_rfl
@[go_sem] theorem ft_hz91 : hasZero prog 91 = true := by kernel_rfl
@[go_sem] theorem ft_by91 : bytesOf prog 91 = 8 := by kernel_rfl
@[go_sem] theorem ft_sz92 : szOf prog 92 = 1 := by kernel_rfl
@[go_sem] theorem ft_pr92 : prim prog 92 = true := by kernel_rfl
@[go_sem] theorem ft_hz92 : hasZero prog 92 = true := by kernel_rfl
@[go_sem] theorem ft_by92 : bytesOf prog 92 = 8 := by kernel_rfl
@[go_sem] theorem ft_sz93 : szOf prog 93 = 1 := by kernel_rfl
@[go_sem] theorem ft_pr93 : prim prog 93 = true := by kernel_rfl
@[go_sem] theorem ft_hz93 : hasZero prog 93 = true := by kernel_rfl
@[go_sem] theorem ft_by93 : bytesOf prog 93 = 8 := by kernel_rfl
@[go_sem] theorem ft_sz94 : szOf prog 94 = 1 := by kernel_rfl
@[go_sem] theorem ft_pr94 : prim prog 94 = true := by kernel_rfl
@[go_sem] theorem ft_hz94 : hasZero prog 94 = true := by kernel_rfl
@[go_sem] theorem ft_by94 : bytesOf prog 94 = 8 := by kernel_rfl
@[go_sem] theorem ft_sz95 : szOf prog 95 = 1 := by kernel_rfl
@[go_sem] theorem ft_pr95 : prim prog 95 = true := by kernel_rfl
@[go_sem] theorem ft_hz95 : hasZero prog 95 = true := by kernel_rfl
@[go_sem] theorem ft_by95 : bytesOf prog 95 = 8 := by kernel_rfl
@[go_sem] theorem ft_sz96 : szOf prog 96 = 6 := by kernel_rfl
@[go_sem] theorem ft_pr96 : prim prog 96 = false := by kernel_rfl
@[go_sem] theorem ft_hz96 : hasZero prog 96 = true := by kernel_rfl
@[go_sem] theorem ft_by96 : bytesOf prog 96 = 144 := by kernel_rfl
@[go_sem] theorem ft_ar96 : arrT prog 96 = some 53 := by kernel_rfl
@[go_sem] theorem ft_fl96 : flds prog 96 = some [53, 53, 53, 53, 53, 53] := by kernel_rfl
@[go_sem] theorem ft_zo96 : zeroOf prog 96 = some (.agg 96 [.nils, .nils, .nils, .nils, .nils, .nils]) := by kernel_rfl
@[go_sem] theorem ft_zi96 : zeroIs prog 96 = true := by kernel_rfl
@[go_sem] theorem ft_zf96 : zeroFs prog 96 = [.nils, .nils, .nils, .nils, .nils, .nils] := by kernel_rfl
@[go_sem] theorem ft_sz97 : szOf prog 97 = 1 := by kernel_rfl
@[go_sem] theorem ft_pr97 : prim prog 97 = true := by kernel_rfl
@[go_sem] theorem ft_hz97 : hasZero prog 97 = true := by kernel_rfl
@[go_sem] theorem ft_by97 : bytesOf prog 97 = 8 := by kernel_rfl
@[go_sem] theorem ft_sz98 : szOf prog 98 = 1 := by kernel_rfl
@[go_sem] theorem ft_pr98 : prim prog 98 = true := by kernel_rfl
@[go_sem] theorem ft_hz98 : hasZero prog 98 = true := by kernel_rfl
@[go_sem] theorem ft_by98 : bytesOf prog 98 = 8 := by kernel_rfl
@[go_sem] theorem ft_sz99 : szOf prog 99 = 1 := by kernel_rfl
@[go_sem] theorem ft_pr99 : prim prog 99 = true := by kernel_rfl
@[go_sem] theorem ft_hz99 : hasZero prog 99 = true := by kernel_rfl
@[go_sem] theorem ft_by99 : bytesOf prog 99 = 8 := by kernel_rfl
@[go_sem] theorem ft_sz100 : szOf prog 100 = 1 := by kernel_rfl
@[go_sem] theorem ft_pr100 : prim prog 100 = true := by kernel_rfl
@[go_sem] theorem ft_hz100 : hasZero prog 100 = true := by kernel_rfl
@[go_sem] theorem ft_by100 : bytesOf prog 100 = 8 := by kernel_rfl
@[go_sem] theorem ft_sz101 : szOf prog 101 = 1 := by kernel_rfl
@[go_sem] theorem ft_pr101 : prim prog 101 = true := by kernel_rfl
@[go_sem] theorem ft_hz101 : hasZero prog 101 = true := by kernel_rfl
@[go_sem] theorem ft_by101 : bytesOf prog 101 = 8 := by kernel_rfl
@[go_sem] theorem ft_sz102 : szOf prog 102 = 1 := by kernel_rfl
@[go_sem] theorem ft_pr102 : prim prog 102 = true := by kernel_rfl
@[go_sem] theorem ft_hz102 : hasZero prog 102 = true := by kernel_rfl
@[go_sem] theorem ft_by102 : bytesOf prog 102 = 8 := by kernel_rfl
@[go_sem] theorem ft_sz103 : szOf prog 103 = 1 := by kernel_rfl
@[go_sem] theorem ft_pr103 : prim prog 103 = true := by kernel_rfl
@[go_sem] theorem ft_hz103 : hasZero prog 103 = true := by kernel_rfl
@[go_sem] theorem ft_by103 : bytesOf prog 103 = 8 := by kernel_rfl
@[go_sem] theorem ft_sz104 : szOf prog 104 = 1 := by kernel_rfl
@[go_sem] theorem ft_pr104 : prim prog 104 = true := by kernel_rfl
@[go_sem] theorem ft_hz104 : hasZero prog 104 = true := by kernel_rfl
@[go_sem] theorem ft_by104 : bytesOf prog 104 = 8 := by kernel_rfl
@[go_sem] theorem ft_sz105 : szOf prog 105 = 1 := by kernel_rfl
@[go_sem] theorem ft_pr105 : prim prog 105 = true := by kernel_rfl
@[go_sem] theorem ft_hz105 : hasZero prog 105 = true := by kernel_rfl
@[go_sem] theorem ft_by105 : bytesOf prog 105 = 8 := by kernel_rfl
@[go_sem] theorem ft_sz106 : szOf prog 106 = 2 := by kernel_rfl
@[go_sem] theorem ft_pr106 : prim prog 106 = false := by kernel_rfl
@[go_sem] theorem ft_hz106 : hasZero prog 106 = true := by kernel_rfl
@[go_sem] theorem ft_by106 : bytesOf prog 106 = 48 := by kernel_rfl
@[go_sem] theorem ft_ar106 : arrT prog 106 = some 53 := by kernel_rfl
@[go_sem] theorem ft_fl106 : flds prog 106 = some [53, 53] := by kernel_rfl
@[go_sem] theorem ft_zo106 : zeroOf prog 106 = some (.agg 106 [.nils, .nils]) := by kernel_rfl
@[go_sem] theorem ft_zi106 : zeroIs prog 106 = true := by kernel_rfl
@[go_sem] theorem ft_zf106 : zeroFs prog 106 = [.nils, .nils] := by kernel_rfl
@[go_sem] theorem ft_sz107 : szOf prog 107 = 1 := by kernel_rfl
@[go_sem] theorem ft_pr107 : prim prog 107 = true := by kernel_rfl
@[go_sem] theorem ft_hz107 : hasZero prog 107 = true := by kernel_rfl
@[go_sem] theorem ft_by107 : bytesOf prog 107 = 8 := by kernel_rfl
@[go_sem] theorem ft_sz108 : szOf prog 108 = 1 := by kernel_rfl
@[go_sem] theorem ft_pr108 : prim prog 108 = true := by kernel_rfl
@[go_sem] theorem ft_hz108 : hasZero prog 108 = true := by kernel_rfl
@[go_sem] theorem ft_by108 : bytesOf prog 108 = 8 := by kernel_rfl
@[go_sem] theorem ft_sz109 : szOf prog 109 = 1 := by kernel_rfl
@[go_sem] theorem ft_pr109 : prim prog 109 = true := by kernel_rfl
@[go_sem] theorem ft_hz109 : hasZero prog 109 = true := by kernel_rfl
@[go_sem] theorem ft_by109 : bytesOf prog 109 = 8 := by kernel_rfl
@[go_sem] theorem ft_sz110 : szOf prog 110 = 1 := by kernel_rfl
@[go_sem] theorem ft_pr110 : prim prog 110 = true := by kernel_rfl
@[go_sem] theorem ft_hz110 : hasZero prog 110 = true := by kernel_rfl
@[go_sem] theorem ft_by110 : bytesOf prog 110 = 8 := by kernel_rfl
@[go_sem] theorem ft_sz111 : szOf prog 111 = 2 := by kernel_rfl
@[go_sem] theorem ft_pr111 : prim prog 111 = false := by kernel_rfl
@[go_sem] theorem ft_sc111 : isStruct prog 111 = true := by kernel_rfl
@[go_sem] theorem ft_hz111 : hasZero prog 111 = true := by kernel_rfl
@[go_sem] theorem ft_by111 : bytesOf prog 111 = 32 := by kernel_rfl
@[go_sem] theorem ft_fl111 : flds prog 111 = some [9, 9] := by kernel_rfl
@[go_sem] theorem ft_zo111 : zeroOf prog 111 = some (.agg 111 [(.str []), (.str [])]) := by kernel_rfl
@[go_sem] theorem ft_zi111 : zeroIs prog 111 = true := by kernel_rfl
@[go_sem] theorem ft_zf111 : zeroFs prog 111 = [(.str []), (.str [])] := by kernel_rfl
@[go_sem] theorem ft_sz112 : szOf prog 112 = 2 := by kernel_rfl
@[go_sem] theorem ft_pr112 : prim prog 112 = false := by kernel_rfl
@[go_sem] theorem ft_sc112 : isStruct prog 112 = true := by kernel_rfl
@[go_sem] theorem ft_hz112 : hasZero prog 112 = true := by kernel_rfl
@[go_sem] theorem ft_by112 : bytesOf prog 112 = 32 := by kernel_rfl
@[go_sem] theorem ft_fl112 : flds prog 112 = some [9, 9] := by kernel_rfl
@[go_sem] theorem ft_zo112 : zeroOf prog 112 = some (.agg 112 [(.str []), (.str [])]) := by kernel_rfl
@[go_sem] theorem ft_zi112 : zeroIs prog 112 = true := by kernel_rfl
@[go_sem] theorem ft_zf112 : zeroFs prog 112 = [(.str []), (.str [])] := by kernel_rfl
@[go_sem] theorem ft_sz113 : szOf prog 113 = 1 := by kernel_rfl
@[go_sem] theorem ft_pr113 : prim prog 113 = true := by kernel_rfl
@[go_sem] theorem ft_hz113 : hasZero prog 113 = true := by kernel_rfl
@[go_sem] theorem ft_by113 : bytesOf prog 113 = 8 := by kernel_rfl
@[go_sem] theorem ft_sz114 : szOf prog 114 = 1 := by kernel_rfl
@[go_sem] theorem ft_pr114 : prim prog 114 = true := by kernel_rfl
@[go_sem] theorem ft_pt114 : isPtrT prog 114 = true := by kernel_rfl
@[go_sem] theorem ft_hz114 : hasZero prog 114 = true := by kernel_rfl
@[go_sem] theorem ft_by114 : bytesOf prog 114 = 8 := by kernel_rfl
@[go_sem] theorem ft_zo114 : zeroOf prog 114 = some .nil := by kernel_rfl
@[go_sem] theorem ft_sz115 : szOf prog 115 = 1 := by kernel_rfl
@[go_sem] theorem ft_pr115 : prim prog 115 = true := by kernel_rfl
@[go_sem] theorem ft_hz115 : hasZero prog 115 = true := by kernel_rfl
@[go_sem] theorem ft_by115 : bytesOf prog 115 = 0 := by kernel_rfl
@[go_sem] theorem ft_sz116 : szOf prog 116 = 1 := by kernel_rfl
@[go_sem] theorem ft_pr116 : prim prog 116 = true := by kernel_rfl
@[go_sem] theorem ft_hz116 : hasZero prog 116 = true := by kernel_rfl
@[go_sem] theorem ft_by116 : bytesOf prog 116 = 8 := by kernel_rfl
@[go_sem] theorem ft_sz117 : szOf prog 117 = 1 := by kernel_rfl
@[go_sem] theorem ft_pr117 : prim prog 117 = true := by kernel_rfl
@[go_sem] theorem ft_hz117 : hasZero prog 117 = true := by kernel_rfl
@[go_sem] theorem ft_by117 : bytesOf prog 117 = 0 := by kernel_rfl
@[go_sem] theorem ft_sz118 : szOf prog 118 = 1 := by kernel_rfl
@[go_sem] theorem ft_pr118 : prim prog 118 = true := by kernel_rfl
@[go_sem] theorem ft_hz118 : hasZero prog 118 = true := by kernel_rfl
@[go_sem] theorem ft_by118 : bytesOf prog 118 = 8 := by kernel_rfl
@[go_sem] theorem ft_sz119 : szOf prog 119 = 1 := by kernel_rfl
@[go_sem] theorem ft_pr119 : prim prog 119 = true := by kernel_rfl
@[go_sem] theorem ft_pt119 : isPtrT prog 119 = true := by kernel_rfl
@[go_sem] theorem ft_hz119 : hasZero prog 119 = true := by kernel_rfl
@[go_sem] theorem ft_by119 : bytesOf prog 119 = 8 := by kernel_rfl
@[go_sem] theorem ft_zo119 : zeroOf prog 119 = some .nil := by kernel_rfl
@[go_sem] theorem ft_sz120 : szOf prog 120 = 4 := by kernel_rfl
@[go_sem] theorem ft_pr120 : prim prog 120 = false := by kernel_rfl
@[go_sem] theorem ft_sc120 : isStruct prog 120 = true := by kernel_rfl
@[go_sem] theorem ft_hz120 : hasZero prog 120 = true := by kernel_rfl
@[go_sem] theorem ft_by120 : bytesOf prog 120 = 48 := by kernel_rfl
@[go_sem] theorem ft_fl120 : flds prog 120 = some [119, 3, 37, 3] := by kernel_rfl
@[go_sem] theorem ft_zo120 : zeroOf prog 120 = some (.agg 120 [.nil, (.int .i64 0), .nils, (.int .i64 0)]) := by kernel_rfl
@[go_sem] theorem ft_zi120 : zeroIs prog 120 = true := by kernel_rfl
@[go_sem] theorem ft_zf120 : zeroFs prog 120 = [.nil, (.int .i64 0), .nils, (.int .i64 0)] := by kernel_rfl
@[go_sem] theorem ft_sz121 : szOf prog 121 = 4 := by kernel_rfl
@[go_sem] theorem ft_pr121 : prim prog 121 = false := by kernel_rfl
@[go_sem] theorem ft_sc121 : isStruct prog 121 = true := by kernel_rfl
@[go_sem] theorem ft_hz121 : hasZero prog 121 = true := by kernel_rfl
@[go_sem] theorem ft_by121 : bytesOf prog 121 = 48 := by kernel_rfl
@[go_sem] theorem ft_fl121 : flds prog 121 = some [119, 3, 37, 3] := by kernel_rfl
@[go_sem] theorem ft_zo121 : zeroOf prog 121 = some (.agg 121 [.nil, (.int .i64 0), .nils, (.int .i64 0)]) := by kernel_rfl
@[go_sem] theorem ft_zi121 : zeroIs prog 121 = true := by kernel_rfl
@[go_sem] theorem ft_zf121 : zeroFs prog 121 = [.nil, (.int .i64 0), .nils, (.int .i64 0)] := by kernel_rfl
@[go_sem] theorem ft_sz122 : szOf prog 122 = 1 := by kernel_rfl
@[go_sem] theorem ft_pr122 : prim prog 122 = true := by kernel_rfl
@[go_sem] theorem ft_hz122 : hasZero prog 122 = true := by kernel_rfl
@[go_sem] theorem ft_by122 : bytesOf prog 122 = 8 := by kernel_rfl
@[go_sem] theorem ft_sz123 : szOf prog 123 = 1 := by kernel_rfl
@[go_sem] theorem ft_pr123 : prim prog 123 = true := by kernel_rfl
@[go_sem] theorem ft_hz123 : hasZero prog 123 = true := by kernel_rfl
@[go_sem] theorem ft_by123 : bytesOf prog 123 = 8 := by kernel_rfl
@[go_sem] theorem ft_sz124 : szOf prog 124 = 1 := by kernel_rfl
@[go_sem] theorem ft_pr124 : prim prog 124 = true := by kernel_rfl
@[go_sem] theorem ft_hz124 : hasZero prog 124 = true := by kernel_rfl
@[go_sem] theorem ft_by124 : bytesOf prog 124 = 8 := by kernel_rfl
@[go_sem] theorem ft_sz125 : szOf prog 125 = 2 := by kernel_rfl
@[go_sem] theorem ft_pr125 : prim prog 125 = false := by kernel_rfl
@[go_sem] theorem ft_hz125 : hasZero prog 125 = true := by kernel_rfl
@[go_sem] theorem ft_by125 : bytesOf prog 125 = 16 := by kernel_rfl
@[go_sem] theorem ft_ar125 : arrT prog 125 = some 3 := by kernel_rfl
@[go_sem] theorem ft_fl125 : flds prog 125 = some [3, 3] := by kernel_rfl
@[go_sem] theorem ft_zo125 : zeroOf prog 125 = some (.agg 125 [(.int .i64 0), (.int .i64 0)]) := by kernel_rfl
@[go_sem] theorem ft_zi125 : zeroIs prog 125 = true := by kernel_rfl
@[go_sem] theorem ft_zf125 : zeroFs prog 125 = [(.int .i64 0), (.int .i64 0)] := by kernel_rfl
@[go_sem] theorem ft_sz126 : szOf prog 126 = 1 := by kernel_rfl
@[go_sem] theorem ft_pr126 : prim prog 126 = true := by kernel_rfl
@[go_sem] theorem ft_hz126 : hasZero prog 126 = true := by kernel_rfl
@[go_sem] theorem ft_by126 : bytesOf prog 126 = 8 := by kernel_rfl
@[go_sem] theorem ft_sz127 : szOf prog 127 = 1 := by kernel_rfl
@[go_sem] theorem ft_pr127 : prim prog 127 = true := by kernel_rfl
@[go_sem] theorem ft_hz127 : hasZero prog 127 = true := by kernel_rfl
@[go_sem] theorem ft_by127 : bytesOf prog 127 = 8 := by kernel_rfl
@[go_sem] theorem ft_sz128 : szOf prog 128 = 1 := by kernel_rfl
@[go_sem] theorem ft_pr128 : prim prog 128 = true := by kernel_rfl
@[go_sem] theorem ft_hz128 : hasZero prog 128 = true := by kernel_rfl
@[go_sem] theorem ft_by128 : bytesOf prog 128 = 8 := by kernel_rfl
@[go_sem] theorem ft_sz129 : szOf prog 129 = 1 := by kernel_rfl
@[go_sem] theorem ft_pr129 : prim prog 129 = true := by kernel_rfl
@[go_sem] theorem ft_hz129 : hasZero prog 129 = true := by kernel_rfl
@[go_sem] theorem ft_by129 : bytesOf prog 129 = 0 := by kernel_rfl
@[go_sem] theorem ft_sz130 : szOf prog 130 = 1 := by kernel_rfl
@[go_sem] theorem ft_pr130 : prim prog 130 = true := by kernel_rfl
@[go_sem] theorem ft_hz130 : hasZero prog 130 = true := by kernel_rfl
@[go_sem] theorem ft_by130 : bytesOf prog 130 = 8 := by kernel_rfl
@[go_sem] theorem ft_sz131 : szOf prog 131 = 2 := by kernel_rfl
@[go_sem] theorem ft_pr131 : prim prog 131 = false := by kernel_rfl
@[go_sem] theorem ft_hz131 : hasZero prog 131 = true := by kernel_rfl
@[go_sem] theorem ft_by131 : bytesOf prog 131 = 32 := by kernel_rfl
@[go_sem] theorem ft_ar131 : arrT prog 131 = some 9 := by kernel_rfl
@[go_sem] theorem ft_fl131 : flds prog 131 = some [9, 9] := by kernel_rfl
@[go_sem] theorem ft_zo131 : zeroOf prog 131 = some (.agg 131 [(.str []), (.str [])]) := by kernel_rfl
@[go_sem] theorem ft_zi131 : zeroIs prog 131 = true := by kernel_rfl
@[go_sem] theorem ft_zf131 : zeroFs prog 131 = [(.str []), (.str [])] := by kernel_rfl
@[go_sem] theorem ft_sz132 : szOf prog 132 = 6 := by kernel_rfl
@[go_sem] theorem ft_pr132 : prim prog 132 = false := by kernel_rfl
@[go_sem] theorem ft_hz132 : hasZero prog 132 = true := by kernel_rfl
@[go_sem] theorem ft_by132 : bytesOf prog 132 = 96 := by kernel_rfl
@[go_sem] theorem ft_ar132 : arrT prog 132 = some 131 := by kernel_rfl
@[go_sem] theorem ft_fl132 : flds prog 132 = some [131, 131, 131] := by kernel_rfl
@[go_sem] theorem ft_zo132 : zeroOf prog 132 = some (.agg 132 [(.agg 131 [(.str []), (.str [])]), (.agg 131 [(.str []), (.str [])]), (.agg 131 [(.str []), (.str [])])]) := by kernel_rfl
@[go_sem] theorem ft_zi132 : zeroIs prog 132 = true := by kernel_rfl
@[go_sem] theorem ft_zf132 : zeroFs prog 132 = [(.agg 131 [(.str []), (.str [])]), (.agg 131 [(.str []), (.str [])]), (.agg 131 [(.str []), (.str [])])] := by kernel_rfl
@[go_sem] theorem ft_sz133 : szOf prog 133 = 1 := by kernel_rfl
@[go_sem] theorem ft_pr133 : prim prog 133 = true := by kernel_rfl
@[go_sem] theorem ft_hz133 : hasZero prog 133 = true := by kernel_rfl
@[go_sem] theorem ft_by133 : bytesOf prog 133 = 0 := by kernel_rfl
@[go_sem] theorem ft_sz134 : szOf prog 134 = 1 := by kernel_rfl
@[go_sem] theorem ft_pr134 : prim prog 134 = true := by kernel_rfl
@[go_sem] theorem ft_hz134 : hasZero prog 134 = true := by kernel_rfl
@[go_sem] theorem ft_by134 : bytesOf prog 134 = 8 := by kernel_rfl
@[go_sem] theorem ft_sz135 : szOf prog 135 = 1 := by kernel_rfl
@[go_sem] theorem ft_pr135 : prim prog 135 = true := by kernel_rfl
@[go_sem] theorem ft_hz135 : hasZero prog 135 = true := by kernel_rfl
@[go_sem] theorem ft_by135 : bytesOf prog 135 = 8 := by kernel_rfl
@[go_sem] theorem ft_sz136 : szOf prog 136 = 1 := by kernel_rfl
@[go_sem] theorem ft_pr136 : prim prog 136 = true := by kernel_rfl
@[go_sem] theorem ft_el136 : elT prog 136 = some 53 := by kernel_rfl
@[go_sem] theorem ft_hz136 : hasZero prog 136 = true := by kernel_rfl
@[go_sem] theorem ft_by136 : bytesOf prog 136 = 24 := by kernel_rfl
@[go_sem] theorem ft_zo136 : zeroOf prog 136 = some .nils := by kernel_rfl
@[go_sem] theorem ft_sz137 : szOf prog 137 = 1 := by kernel_rfl
@[go_sem] theorem ft_pr137 : prim prog 137 = true := by kernel_rfl
@[go_sem] theorem ft_hz137 : hasZero prog 137 = true := by kernel_rfl
@[go_sem] theorem ft_by137 : bytesOf prog 137 = 8 := by kernel_rfl
@[go_sem] theorem ft_sz138 : szOf prog 138 = 1 := by kernel_rfl
@[go_sem] theorem ft_pr138 : prim prog 138 = true := by kernel_rfl
@[go_sem] theorem ft_hz138 : hasZero prog 138 = true := by kernel_rfl
@[go_sem] theorem ft_by138 : bytesOf prog 138 = 0 := by kernel_rfl
@[go_sem] theorem ft_sz139 : szOf prog 139 = 1 := by kernel_rfl
@[go_sem] theorem ft_pr139 : prim prog 139 = true := by kernel_rfl
@[go_sem] theorem ft_hz139 : hasZero prog 139 = true := by kernel_rfl
@[go_sem] theorem ft_by139 : bytesOf prog 139 = 8 := by kernel_rfl
@[go_sem] theorem ft_sz140 : szOf prog 140 = 1 := by kernel_rfl
@[go_sem] theorem ft_pr140 : prim prog 140 = true := by kernel_rfl
@[go_sem] theorem ft_hz140 : hasZero prog 140 = true := by kernel_rfl
@[go_sem] theorem ft_by140 : bytesOf prog 140 = 8 := by kernel_rfl
@[go_sem] theorem ft_sz141 : szOf prog 141 = 1 := by kernel_rfl
@[go_sem] theorem ft_pr141 : prim prog 141 = true := by kernel_rfl
@[go_sem] theorem ft_pt141 : isPtrT prog 141 = true := by kernel_rfl
@[go_sem] theorem ft_hz141 : hasZero prog 141 = true := by kernel_rfl
@[go_sem] theorem ft_by141 : bytesOf prog 141 = 8 := by kernel_rfl
@[go_sem] theorem ft_zo141 : zeroOf prog 141 = some .nil := by kernel_rfl
@[go_sem] theorem ft_sz142 : szOf prog 142 = 1 := by kernel_rfl
@[go_sem] theorem ft_pr142 : prim prog 142 = true := by kernel_rfl
@[go_sem] theorem ft_el142 : elT prog 142 = some 5 := by kernel_rfl
@[go_sem] theorem ft_hz142 : hasZero prog 142 = true := by kernel_rfl
@[go_sem] theorem ft_by142 : bytesOf prog 142 = 24 := by kernel_rfl
@[go_sem] theorem ft_zo142 : zeroOf prog 142 = some .nils := by kernel_rfl
@[go_sem] theorem ft_sz143 : szOf prog 143 = 2 := by kernel_rfl
@[go_sem] theorem ft_pr143 : prim prog 143 = false := by kernel_rfl
@[go_sem] theorem ft_sc143 : isStruct prog 143 = true := by kernel_rfl
@[go_sem] theorem ft_hz143 : hasZero prog 143 = true := by kernel_rfl
@[go_sem] theorem ft_by143 : bytesOf prog 143 = 32 := by kernel_rfl
@[go_sem] theorem ft_fl143 : flds prog 143 = some [141, 142] := by kernel_rfl
@[go_sem] theorem ft_zo143 : zeroOf prog 143 = some (.agg 143 [.nil, .nils]) := by kernel_rfl
@[go_sem] theorem ft_zi143 : zeroIs prog 143 = true := by kernel_rfl
@[go_sem] theorem ft_zf143 : zeroFs prog 143 = [.nil, .nils] := by kernel_rfl
@[go_sem] theorem ft_sz144 : szOf prog 144 = 2 := by kernel_rfl
@[go_sem] theorem ft_pr144 : prim prog 144 = false := by kernel_rfl
@[go_sem] theorem ft_sc144 : isStruct prog 144 = true := by kernel_rfl
@[go_sem] theorem ft_hz144 : hasZero prog 144 = true := by kernel_rfl
@[go_sem] theorem ft_by144 : bytesOf prog 144 = 32 := by kernel_rfl
@[go_sem] theorem ft_fl144 : flds prog 144 = some [141, 142] := by kernel_rfl
@[go_sem] theorem ft_zo144 : zeroOf prog 144 = some (.agg 144 [.nil, .nils]) := by kernel_rfl
@[go_sem] theorem ft_zi144 : zeroIs prog 144 = true := by kernel_rfl
@[go_sem] theorem ft_zf144 : zeroFs prog 144 = [.nil, .nils] := by kernel_rfl
@[go_sem] theorem ft_sz145 : szOf prog 145 = 1 := by kernel_rfl
@[go_sem] theorem ft_pr145 : prim prog 145 = true := by kernel_rfl
@[go_sem] theorem ft_hz145 : hasZero prog 145 = true := by kernel_rfl
@[go_sem] theorem ft_by145 : bytesOf prog 145 = 8 := by kernel_rfl
@[go_sem] theorem ft_sz146 : szOf prog 146 = 1 := by kernel_rfl
@[go_sem] theorem ft_pr146 : prim prog 146 = true := by kernel_rfl
@[go_sem] theorem ft_hz146 : hasZero prog 146 = true := by kernel_rfl
@[go_sem] theorem ft_by146 : bytesOf prog 146 = 16 := by kernel_rfl
@[go_sem] theorem ft_sz147 : szOf prog 147 = 1 := by kernel_rfl
@[go_sem] theorem ft_pr147 : prim prog 147 = true := by kernel_rfl
@[go_sem] theorem ft_hz147 : hasZero prog 147 = true := by kernel_rfl
@[go_sem] theorem ft_by147 : bytesOf prog 147 = 16 := by kernel_rfl
@[go_sem] theorem ft_sz148 : szOf prog 148 = 1 := by kernel_rfl
@[go_sem] theorem ft_pr148 : prim prog 148 = true := by kernel_rfl
@[go_sem] theorem ft_hz148 : hasZero prog 148 = true := by kernel_rfl
@[go_sem] theorem ft_by148 : bytesOf prog 148 = 0 := by kernel_rfl
@[go_sem] theorem ft_sz149 : szOf prog 149 = 1 := by kernel_rfl
@[go_sem] theorem ft_pr149 : prim prog 149 = true := by kernel_rfl
@[go_sem] theorem ft_hz149 : hasZero prog 149 = true := by kernel_rfl
@[go_sem] theorem ft_by149 : bytesOf prog 149 = 8 := by kernel_rfl
@[go_sem] theorem ft_sz150 : szOf prog 150 = 1 := by kernel_rfl
@[go_sem] theorem ft_pr150 : prim prog 150 = true := by kernel_rfl
@[go_sem] theorem ft_hz150 : hasZero prog 150 = true := by kernel_rfl
@[go_sem] theorem ft_by150 : bytesOf prog 150 = 8 := by kernel_rfl
@[go_sem] theorem ft_sz151 : szOf prog 151 = 1 := by kernel_rfl
@[go_sem] theorem ft_pr151 : prim prog 151 = true := by kernel_rfl
@[go_sem] theorem ft_hz151 : hasZero prog 151 = true := by kernel_rfl
@[go_sem] theorem ft_by151 : bytesOf prog 151 = 8 := by kernel_rfl
@[go_sem] theorem ft_sz152 : szOf prog 152 = 1 := by kernel_rfl
@[go_sem] theorem ft_pr152 : prim prog 152 = true := by kernel_rfl
@[go_sem] theorem ft_hz152 : hasZero prog 152 = true := by kernel_rfl
@[go_sem] theorem ft_by152 : bytesOf prog 152 = 8 := by kernel_rfl
@[go_sem] theorem ft_sz153 : szOf prog 153 = 1 := by kernel_rfl
@[go_sem] theorem ft_pr153 : prim prog 153 = true := by kernel_rfl
@[go_sem] theorem ft_hz153 : hasZero prog 153 = true := by kernel_rfl
@[go_sem] theorem ft_by153 : bytesOf prog 153 = 8 := by kernel_rfl
@[go_sem] theorem ft_sz154 : szOf prog 154 = 1 := by kernel_rfl
@[go_sem] theorem ft_pr154 : prim prog 154 = true := by kernel_rfl
@[go_sem] theorem ft_hz154 : hasZero prog 154 = true := by kernel_rfl
@[go_sem] theorem ft_by154 : bytesOf prog 154 = 8 := by kernel_rfl
@[go_sem] theorem ft_sz155 : szOf prog 155 = 1 := by kernel_rfl
@[go_sem] theorem ft_pr155 : prim prog 155 = true := by kernel_rfl
@[go_sem] theorem ft_hz155 : hasZero prog 155 = true := by kernel_rfl
@[go_sem] theorem ft_by155 : bytesOf prog 155 = 8 := by kernel_rfl
@[go_sem] theorem ft_sz156 : szOf prog 156 = 1 := by kernel_rfl
@[go_sem] theorem ft_pr156 : prim prog 156 = true := by kernel_rfl
@[go_sem] theorem ft_el156 : elT prog 156 = some 90 := by kernel_rfl
@[go_sem] theorem ft_hz156 : hasZero prog 156 = true := by kernel_rfl
@[go_sem] theorem ft_by156 : bytesOf prog 156 = 24 := by kernel_rfl
@[go_sem] theorem ft_zo156 : zeroOf prog 156 = some .nils := by kernel_rfl
@[go_sem] theorem ft_sz157 : szOf prog 157 = 4 := by kernel_rfl
@[go_sem] theorem ft_pr157 : prim prog 157 = false := by kernel_rfl
@[go_sem] theorem ft_sc157 : isStruct prog 157 = true := by kernel_rfl
@[go_sem] theorem ft_hz157 : hasZero prog 157 = true := by kernel_rfl
@[go_sem] theorem ft_by157 : bytesOf prog 157 = 96 := by kernel_rfl
@[go_sem] theorem ft_fl157 : flds prog 157 = some [156, 37, 90, 37] := by kernel_rfl
@[go_sem] theorem ft_zo157 : zeroOf prog 157 = some (.agg 157 [.nils, .nils, .nils, .nils]) := by kernel_rfl
@[go_sem] theorem ft_zi157 : zeroIs prog 157 = true := by kernel_rfl
@[go_sem] theorem ft_zf157 : zeroFs prog 157 = [.nils, .nils, .nils, .nils] := by kernel_rfl
@[go_sem] theorem ft_sz158 : szOf prog 158 = 4 := by kernel_rfl
@[go_sem] theorem ft_pr158 : prim prog 158 = false := by kernel_rfl
@[go_sem] theorem ft_sc158 : isStruct prog 158 = true := by kernel_rfl
@[go_sem] theorem ft_hz158 : hasZero prog 158 = true := by kernel_rfl
@[go_sem] theorem ft_by158 : bytesOf prog 158 = 96 := by kernel_rfl
@[go_sem] theorem ft_fl158 : flds prog 158 = some [156, 37, 90, 37] := by kernel_rfl
@[go_sem] theorem ft_zo158 : zeroOf prog 158 = some (.agg 158 [.nils, .nils, .nils, .nils]) := by kernel_rfl
@[go_sem] theorem ft_zi158 : zeroIs prog 158 = true := by kernel_rfl
@[go_sem] theorem ft_zf158 : zeroFs prog 158 = [.nils, .nils, .nils, .nils] := by kernel_rfl
@[go_sem] theorem ft_sz159 : szOf prog 159 = 2 := by kernel_rfl
@[go_sem] theorem ft_pr159 : prim prog 159 = false := by kernel_rfl
@[go_sem] theorem ft_sc159 : isStruct prog 159 = true := by kernel_rfl
@[go_sem] theorem ft_hz159 : hasZero prog 159 = true := by kernel_rfl
@[go_sem] theorem ft_by159 : bytesOf prog 159 = 32 := by kernel_rfl
@[go_sem] theorem ft_fl159 : flds prog 159 = some [3, 156] := by kernel_rfl
@[go_sem] theorem ft_zo159 : zeroOf prog 159 = some (.agg 159 [(.int .i64 0), .nils]) := by kernel_rfl
@[go_sem] theorem ft_zi159 : zeroIs prog 159 = true := by kernel_rfl
@[go_sem] theorem ft_zf159 : zeroFs prog 159 = [(.int .i64 0), .nils] := by kernel_rfl
@[go_sem] theorem ft_sz160 : szOf prog 160 = 2 := by kernel_rfl
@[go_sem] theorem ft_pr160 : prim prog 160 = false := by kernel_rfl
@[go_sem] theorem ft_sc160 : isStruct prog 160 = true := by kernel_rfl
@[go_sem] theorem ft_hz160 : hasZero prog 160 = true := by kernel_rfl
@[go_sem] theorem ft_by160 : bytesOf prog 160 = 32 := by kernel_rfl
@[go_sem] theorem ft_fl160 : flds prog 160 = some [3, 156] := by kernel_rfl
@[go_sem] theorem ft_zo160 : zeroOf prog 160 = some (.agg 160 [(.int .i64 0), .nils]) := by kernel_rfl
@[go_sem] theorem ft_zi160 : zeroIs prog 160 = true := by kernel_rfl
@[go_sem] theorem ft_zf160 : zeroFs prog 160 = [(.int .i64 0), .nils] := by kernel_rfl
@[go_sem] theorem ft_sz161 : szOf prog 161 = 1 := by kernel_rfl
@[go_sem] theorem ft_pr161 : prim prog 161 = true := by kernel_rfl
@[go_sem] theorem ft_hz161 : hasZero prog 161 = true := by kernel_rfl
@[go_sem] theorem ft_by161 : bytesOf prog 161 = 0 := by kernel_rfl
@[go_sem] theorem ft_sz162 : szOf prog 162 = 1 := by kernel_rfl
@[go_sem] theorem ft_pr162 : prim prog 162 = true := by kernel_rfl
@[go_sem] theorem ft_hz162 : hasZero prog 162 = true := by kernel_rfl
@[go_sem] theorem ft_by162 : bytesOf prog 162 = 8 := by kernel_rfl
@[go_sem] theorem ft_sz163 : szOf prog 163 = 1 := by kernel_rfl
@[go_sem] theorem ft_pr163 : prim prog 163 = true := by kernel_rfl
@[go_sem] theorem ft_hz163 : hasZero prog 163 = true := by kernel_rfl
@[go_sem] theorem ft_by163 : bytesOf prog 163 = 8 := by kernel_rfl
@[go_sem] theorem ft_sz164 : szOf prog 164 = 1 := by kernel_rfl
@[go_sem] theorem ft_pr164 : prim prog 164 = true := by kernel_rfl
@[go_sem] theorem ft_hz164 : hasZero prog 164 = true := by kernel_rfl
@[go_sem] theorem ft_by164 : bytesOf prog 164 = 8 := by kernel_rfl
@[go_sem] theorem ft_sz165 : szOf prog 165 = 1 := by kernel_rfl
@[go_sem] theorem ft_pr165 : prim prog 165 = true := by kernel_rfl
@[go_sem] theorem ft_hz165 : hasZero prog 165 = true := by kernel_rfl
@[go_sem] theorem ft_by165 : bytesOf prog 165 = 8 := by kernel_rfl
@[go_sem] theorem ft_sz166 : szOf prog 166 = 1 := by kernel_rfl
@[go_sem] theorem ft_pr166 : prim prog 166 = true := by kernel_rfl
@[go_sem] theorem ft_hz166 : hasZero prog 166 = true := by kernel_rfl
@[go_sem] theorem ft_by166 : bytesOf prog 166 = 8 := by kernel_rfl
@[go_sem] theorem ft_sz167 : szOf prog 167 = 1 := by kernel_rfl
@[go_sem] theorem ft_pr167 : prim prog 167 = true := by kernel_rfl
@[go_sem] theorem ft_hz167 : hasZero prog 167 = true := by kernel_rfl
@[go_sem] theorem ft_by167 : bytesOf prog 167 = 8 := by kernel_rfl
@[go_sem] theorem ft_sz168 : szOf prog 168 = 1 := by kernel_rfl
@[go_sem] theorem ft_pr168 : prim prog 168 = true := by kernel_rfl
@[go_sem] theorem ft_hz168 : hasZero prog 168 = true := by kernel_rfl
@[go_sem] theorem ft_by168 : bytesOf prog 168 = 0 := by kernel_rfl
@[go_sem] theorem ft_sz169 : szOf prog 169 = 1 := by kernel_rfl
@[go_sem] theorem ft_pr169 : prim prog 169 = true := by kernel_rfl
@[go_sem] theorem ft_hz169 : hasZero prog 169 = true := by kernel_rfl
@[go_sem] theorem ft_by169 : bytesOf prog 169 = 8 := by kernel_rfl
@[go_sem] theorem ft_sz170 : szOf prog 170 = 1 := by kernel_rfl
@[go_sem] theorem ft_pr170 : prim prog 170 = true := by kernel_rfl
@[go_sem] theorem ft_hz170 : hasZero prog 170 = true := by kernel_rfl
@[go_sem] theorem ft_by170 : bytesOf prog 170 = 8 := by kernel_rfl
@[go_sem] theorem ft_sz171 : szOf prog 171 = 1 := by kernel_rfl
@[go_sem] theorem ft_pr171 : prim prog 171 = true := by kernel_rfl
@[go_sem] theorem ft_hz171 : hasZero prog 171 = true := by kernel_rfl
@[go_sem] theorem ft_by171 : bytesOf prog 171 = 8 := by kernel_rfl
@[go_sem] theorem ft_sz172 : szOf prog 172 = 1 := by kernel_rfl
@[go_sem] theorem ft_pr172 : prim prog 172 = true := by kernel_rfl
@[go_sem] theorem ft_hz172 : hasZero prog 172 = true := by kernel_rfl
@[go_sem] theorem ft_by172 : bytesOf prog 172 = 8 := by kernel_rfl
@[go_sem] theorem ft_sz173 : szOf prog 173 = 2 := by kernel_rfl
@[go_sem] theorem ft_pr173 : prim prog 173 = false := by kernel_rfl
@[go_sem] theorem ft_hz173 : hasZero prog 173 = true := by kernel_rfl
@[go_sem] theorem ft_by173 : bytesOf prog 173 = 48 := by kernel_rfl
@[go_sem] theorem ft_ar173 : arrT prog 173 = some 51 := by kernel_rfl
@[go_sem] theorem ft_fl173 : flds prog 173 = some [51, 51] := by kernel_rfl
@[go_sem] theorem ft_zo173 : zeroOf prog 173 = some (.agg 173 [.nils, .nils]) := by kernel_rfl
@[go_sem] theorem ft_zi173 : zeroIs prog 173 = true := by kernel_rfl
@[go_sem] theorem ft_zf173 : zeroFs prog 173 = [.nils, .nils] := by kernel_rfl
@[go_sem] theorem ft_sz174 : szOf prog 174 = 1 := by kernel_rfl
@[go_sem] theorem ft_pr174 : prim prog 174 = true := by kernel_rfl
@[go_sem] theorem ft_pt174 : isPtrT prog 174 = true := by kernel_rfl
@[go_sem] theorem ft_hz174 : hasZero prog 174 = true := by kernel_rfl
@[go_sem] theorem ft_by174 : bytesOf prog 174 = 8 := by kernel_rfl
@[go_sem] theorem ft_zo174 : zeroOf prog 174 = some .nil := by kernel_rfl
@[go_sem] theorem ft_sz175 : szOf prog 175 = 1 := by kernel_rfl
@[go_sem] theorem ft_pr175 : prim prog 175 = true := by kernel_rfl
@[go_sem] theorem ft_hz175 : hasZero prog 175 = true := by kernel_rfl
@[go_sem] theorem ft_by175 : bytesOf prog 175 = 8 := by kernel_rfl
@[go_sem] theorem ft_sz176 : szOf prog 176 = 1 := by kernel_rfl
@[go_sem] theorem ft_pr176 : prim prog 176 = true := by kernel_rfl
@[go_sem] theorem ft_hz176 : hasZero prog 176 = true := by kernel_rfl
@[go_sem] theorem ft_by176 : bytesOf prog 176 = 8 := by kernel_rfl
@[go_sem] theorem ft_sz177 : szOf prog 177 = 1 := by kernel_rfl
@[go_sem] theorem ft_pr177 : prim prog 177 = true := by kernel_rfl
@[go_sem] theorem ft_hz177 : hasZero prog 177 = true := by kernel_rfl
@[go_sem] theorem ft_by177 : bytesOf prog 177 = 8 := by kernel_rfl
@[go_sem] theorem ft_sz178 : szOf prog 178 = 1 := by kernel_rfl
@[go_sem] theorem ft_pr178 : prim prog 178 = true := by kernel_rfl
@[go_sem] theorem ft_hz178 : hasZero prog 178 = true := by kernel_rfl
@[go_sem] theorem ft_by178 : bytesOf prog 178 = 8 := by kernel_rfl
@[go_sem] theorem ft_sz179 : szOf prog 179 = 1 := by kernel_rfl
@[go_sem] theorem ft_pr179 : prim prog 179 = true := by kernel_rfl
@[go_sem] theorem ft_hz179 : hasZero prog 179 = true := by kernel_rfl
@[go_sem] theorem ft_by179 : bytesOf prog 179 = 8 := by kernel_rfl
@[go_sem] theorem ft_sz180 : szOf prog 180 = 1 := by kernel_rfl
@[go_sem] theorem ft_pr180 : prim prog 180 = true := by kernel_rfl
@[go_sem] theorem ft_it180 : intT prog 180 = some .u64 := by kernel_rfl
@[go_sem] theorem ft_hz180 : hasZero prog 180 = true := by kernel_rfl
@[go_sem] theorem ft_by180 : bytesOf prog 180 = 8 := by kernel_rfl
@[go_sem] theorem ft_zo180 : zeroOf prog 180 = some (.int .u64 0) := by kernel_rfl
@[go_sem] theorem ft_sz181 : szOf prog 181 = 1 := by kernel_rfl
@[go_sem] theorem ft_pr181 : prim prog 181 = true := by kernel_rfl
@[go_sem] theorem ft_hz181 : hasZero prog 181 = true := by kernel_rfl
@[go_sem] theorem ft_by181 : bytesOf prog 181 = 8 := by kernel_rfl
@[go_sem] theorem ft_sz182 : szOf prog 182 = 1 := by kernel_rfl
@[go_sem] theorem ft_pr182 : prim prog 182 = true := by kernel_rfl
@[go_sem] theorem ft_hz182 : hasZero prog 182 = true := by kernel_rfl
@[go_sem] theorem ft_by182 : bytesOf prog 182 = 8 := by kernel_rfl
@[go_sem] theorem ft_sz183 : szOf prog 183 = 1 := by kernel_rfl
@[go_sem] theorem ft_pr183 : prim prog 183 = true := by kernel_rfl
@[go_sem] theorem ft_hz183 : hasZero prog 183 = true := by kernel_rfl
@[go_sem] theorem ft_by183 : bytesOf prog 183 = 8 := by kernel_rfl
@[go_sem] theorem ft_sz184 : szOf prog 184 = 1 := by kernel_rfl
@[go_sem] theorem ft_pr184 : prim prog 184 = true := by kernel_rfl
@[go_sem] theorem ft_hz184 : hasZero prog 184 = true := by kernel_rfl
@[go_sem] theorem ft_by184 : bytesOf prog 184 = 8 := by kernel_rfl
@[go_sem] theorem ft_sz185 : szOf prog 185 = 1 := by kernel_rfl
@[go_sem] theorem ft_pr185 : prim prog 185 = true := by kernel_rfl
@[go_sem] theorem ft_hz185 : hasZero prog 185 = true := by kernel_rfl
@[go_sem] theorem ft_by185 : bytesOf prog 185 = 8 := by kernel_rfl
@[go_sem] theorem ft_sz186 : szOf prog 186 = 1 := by kernel_rfl
@[go_sem] theorem ft_pr186 : prim prog 186 = true := by kernel_rfl
@[go_sem] theorem ft_hz186 : hasZero prog 186 = true := by kernel_rfl
@[go_sem] theorem ft_by186 : bytesOf prog 186 = 8 := by kernel_rfl
@[go_sem] theorem ft_sz187 : szOf prog 187 = 1 := by kernel_rfl
@[go_sem] theorem ft_pr187 : prim prog 187 = true := by kernel_rfl
@[go_sem] theorem ft_pt187 : isPtrT prog 187 = true := by kernel_rfl
@[go_sem] theorem ft_hz187 : hasZero prog 187 = true := by kernel_rfl
@[go_sem] theorem ft_by187 : bytesOf prog 187 = 8 := by kernel_rfl
@[go_sem] theorem ft_zo187 : zeroOf prog 187 = some .nil := by kernel_rfl
@[go_sem] theorem ft_sz188 : szOf prog 188 = 2 := by kernel_rfl
@[go_sem] theorem ft_pr188 : prim prog 188 = false := by kernel_rfl
@[go_sem] theorem ft_sc188 : isStruct prog 188 = true := by kernel_rfl
@[go_sem] theorem ft_hz188 : hasZero prog 188 = true := by kernel_rfl
@[go_sem] theorem ft_by188 : bytesOf prog 188 = 32 := by kernel_rfl
@[go_sem] theorem ft_fl188 : flds prog 188 = some [9, 9] := by kernel_rfl
@[go_sem] theorem ft_zo188 : zeroOf prog 188 = some (.agg 188 [(.str []), (.str [])]) := by kernel_rfl
@[go_sem] theorem ft_zi188 : zeroIs prog 188 = true := by kernel_rfl
@[go_sem] theorem ft_zf188 : zeroFs prog 188 = [(.str []), (.str [])] := by kernel_rfl
@[go_sem] theorem ft_sz189 : szOf prog 189 = 2 := by kernel_rfl
@[go_sem] theorem ft_pr189 : prim prog 189 = false := by kernel_rfl
@[go_sem] theorem ft_sc189 : isStruct prog 189 = true := by kernel_rfl
@[go_sem] theorem ft_hz189 : hasZero prog 189 = true := by kernel_rfl
@[go_sem] theorem ft_by189 : bytesOf prog 189 = 32 := by kernel_rfl
@[go_sem] theorem ft_fl189 : flds prog 189 = some [9, 9] := by kernel_rfl
@[go_sem] theorem ft_zo189 : zeroOf prog 189 = some (.agg 189 [(.str []), (.str [])]) := by kernel_rfl
@[go_sem] theorem ft_zi189 : zeroIs prog 189 = true := by kernel_rfl
@[go_sem] theorem ft_zf189 : zeroFs prog 189 = [(.str []), (.str [])] := by kernel_rfl
@[go_sem] theorem ft_sz190 : szOf prog 190 = 1 := by kernel_rfl
@[go_sem] theorem ft_pr190 : prim prog 190 = true := by kernel_rfl
@[go_sem] theorem ft_hz190 : hasZero prog 190 = true := by kernel_rfl
@[go_sem] theorem ft_by190 : bytesOf prog 190 = 8 := by kernel_rfl
@[go_sem] theorem ft_zo190 : zeroOf prog 190 = some .nil := by kernel_rfl
@[go_sem] theorem ft_sz191 : szOf prog 191 = 1 := by kernel_rfl
@[go_sem] theorem ft_pr191 : prim prog 191 = true := by kernel_rfl
@[go_sem] theorem ft_hz191 : hasZero prog 191 = true := by kernel_rfl
@[go_sem] theorem ft_by191 : bytesOf prog 191 = 8 := by kernel_rfl
@[go_sem] theorem ft_sz192 : szOf prog 192 = 1 := by kernel_rfl
@[go_sem] theorem ft_pr192 : prim prog 192 = true := by kernel_rfl
@[go_sem] theorem ft_hz192 : hasZero prog 192 = true := by kernel_rfl
@[go_sem] theorem ft_by192 : bytesOf prog 192 = 8 := by kernel_rfl
@[go_sem] theorem ft_sz193 : szOf prog 193 = 1 := by kernel_rfl
@[go_sem] theorem ft_pr193 : prim prog 193 = true := by kernel_rfl
@[go_sem] theorem ft_hz193 : hasZero prog 193 = true := by kernel_rfl
@[go_sem] theorem ft_by193 : bytesOf prog 193 = 8 := by kernel_rfl
@[go_sem] theorem ft_sz194 : szOf prog 194 = 1 := by kernel_rfl
@[go_sem] theorem ft_pr194 : prim prog 194 = true := by kernel_rfl
@[go_sem] theorem ft_hz194 : hasZero prog 194 = true := by kernel_rfl
@[go_sem] theorem ft_by194 : bytesOf prog 194 = 8 := by kernel_rfl
@[go_sem] theorem ft_sz195 : szOf prog 195 = 1 := by kernel_rfl
@[go_sem] theorem ft_pr195 : prim prog 195 = true := by kernel_rfl
@[go_sem] theorem ft_hz195 : hasZero prog 195 = true := by kernel_rfl
@[go_sem] theorem ft_by195 : bytesOf prog 195 = 8 := by kernel_rfl
@[go_sem] theorem ft_sz196 : szOf prog 196 = 1 := by kernel_rfl
@[go_sem] theorem ft_pr196 : prim prog 196 = true := by kernel_rfl
@[go_sem] theorem ft_hz196 : hasZero prog 196 = true := by kernel_rfl
@[go_sem] theorem ft_by196 : bytesOf prog 196 = 8 := by kernel_rfl
@[go_sem] theorem ft_sz197 : szOf prog 197 = 1 := by kernel_rfl
@[go_sem] theorem ft_pr197 : prim prog 197 = true := by kernel_rfl
@[go_sem] theorem ft_hz197 : hasZero prog 197 = true := by kernel_rfl
@[go_sem] theorem ft_by197 : bytesOf prog 197 = 8 := by kernel_rfl
@[go_sem] theorem ft_sz198 : szOf prog 198 = 1 := by kernel_rfl
@[go_sem] theorem ft_pr198 : prim prog 198 = true := by kernel_rfl
@[go_sem] theorem ft_hz198 : hasZero prog 198 = true := by kernel_rfl
@[go_sem] theorem ft_by198 : bytesOf prog 198 = 0 := by kernel_rfl
@[go_sem] theorem ft_sz199 : szOf prog 199 = 1 := by kernel_rfl
@[go_sem] theorem ft_pr199 : prim prog 199 = true := by kernel_rfl
@[go_sem] theorem ft_hz199 : hasZero prog 199 = true := by kernel_rfl
@[go_sem] theorem ft_by199 : bytesOf prog 199 = 8 := by kernel_rfl
@[go_sem] theorem ft_sz200 : szOf prog 200 = 1 := by kernel_rfl
@[go_sem] theorem ft_pr200 : prim prog 200 = true := by kernel_rfl
@[go_sem] theorem ft_hz200 : hasZero prog 200 = true := by kernel_rfl
@[go_sem] theorem ft_by200 : bytesOf prog 200 = 8 := by kernel_rfl
@[go_sem] theorem ft_sz201 : szOf prog 201 = 1 := by kernel_rfl
@[go_sem] theorem ft_pr201 : prim prog 201 = true := by kernel_rfl
@[go_sem] theorem ft_it201 : intT prog 201 = some .i64 := by kernel_rfl
@[go_sem] theorem ft_hz201 : hasZero prog 201 = true := by kernel_rfl
@[go_sem] theorem ft_by201 : bytesOf prog 201 = 8 := by kernel_rfl
@[go_sem] theorem ft_zo201 : zeroOf prog 201 = some (.int .i64 0) := by kernel_rfl
@[go_sem] theorem ft_sz202 : szOf prog 202 = 1 := by kernel_rfl
@[go_sem] theorem ft_pr202 : prim prog 202 = true := by kernel_rfl
@[go_sem] theorem ft_hz202 : hasZero prog 202 = true := by kernel_rfl
@[go_sem] theorem ft_by202 : bytesOf prog 202 = 0 := by kernel_rfl
@[go_sem] theorem ft_sz203 : szOf prog 203 = 1 := by kernel_rfl
@[go_sem] theorem ft_pr203 : prim prog 203 = true := by kernel_rfl
@[go_sem] theorem ft_hz203 : hasZero prog 203 = true := by kernel_rfl
@[go_sem] theorem ft_by203 : bytesOf prog 203 = 8 := by kernel_rfl
@[go_sem] theorem ft_sz204 : szOf prog 204 = 1 := by kernel_rfl
@[go_sem] theorem ft_pr204 : prim prog 204 = true := by kernel_rfl
@[go_sem] theorem ft_hz204 : hasZero prog 204 = true := by kernel_rfl
@[go_sem] theorem ft_by204 : bytesOf prog 204 = 8 := by kernel_rfl
@[go_sem] theorem ft_sz205 : szOf prog 205 = 1 := by kernel_rfl
@[go_sem] theorem ft_pr205 : prim prog 205 = true := by kernel_rfl
@[go_sem] theorem ft_hz205 : hasZero prog 205 = true := by kernel_rfl
@[go_sem] theorem ft_by205 : bytesOf prog 205 = 8 := by kernel_rfl
@[go_sem] theorem ft_sz206 : szOf prog 206 = 1 := by kernel_rfl
@[go_sem] theorem ft_pr206 : prim prog 206 = true := by kernel_rfl
@[go_sem] theorem ft_hz206 : hasZero prog 206 = true := by kernel_rfl
@[go_sem] theorem ft_by206 : bytesOf prog 206 = 8 := by kernel_rfl
@[go_sem] theorem ft_sz207 : szOf prog 207 = 1 := by kernel_rfl
@[go_sem] theorem ft_pr207 : prim prog 207 = true := by kernel_rfl
@[go_sem] theorem ft_hz207 : hasZero prog 207 = true := by kernel_rfl
@[go_sem] theorem ft_by207 : bytesOf prog 207 = 8 := by kernel_rfl
@[go_sem] theorem ft_sz208 : szOf prog 208 = 1 := by kernel_rfl
@[go_sem] theorem ft_pr208 : prim prog 208 = true := by kernel_rfl
@[go_sem] theorem ft_it208 : intT prog 208 = some .u32 := by kernel_rfl
@[go_sem] theorem ft_hz208 : hasZero prog 208 = true := by kernel_rfl
@[go_sem] theorem ft_by208 : bytesOf prog 208 = 4 := by kernel_rfl
@[go_sem] theorem ft_zo208 : zeroOf prog 208 = some (.int .u32 0) := by kernel_rfl
@[go_sem] theorem ft_sz209 : szOf prog 209 = 1 := by kernel_rfl
@[go_sem] theorem ft_pr209 : prim prog 209 = true := by kernel_rfl
@[go_sem] theorem ft_hz209 : hasZero prog 209 = true := by kernel_rfl
@[go_sem] theorem ft_by209 : bytesOf prog 209 = 8 := by kernel_rfl
@[go_sem] theorem ft_sz210 : szOf prog 210 = 1 := by kernel_rfl
@[go_sem] theorem ft_pr210 : prim prog 210 = true := by kernel_rfl
@[go_sem] theorem ft_it210 : intT prog 210 = some .u64 := by kernel_rfl
@[go_sem] theorem ft_hz210 : hasZero prog 210 = true := by kernel_rfl
@[go_sem] theorem ft_by210 : bytesOf prog 210 = 8 := by kernel_rfl
@[go_sem] theorem ft_zo210 : zeroOf prog 210 = some (.int .u64 0) := by kernel_rfl
@[go_sem] theorem ft_sz211 : szOf prog 211 = 1 := by kernel_rfl
@[go_sem] theorem ft_pr211 : prim prog 211 = true := by kernel_rfl
@[go_sem] theorem ft_hz211 : hasZero prog 211 = true := by kernel_rfl
@[go_sem] theorem ft_by211 : bytesOf prog 211 = 8 := by kernel_rfl
@[go_sem] theorem ft_sz212 : szOf prog 212 = 1 := by kernel_rfl
@[go_sem] theorem ft_pr212 : prim prog 212 = true := by kernel_rfl
@[go_sem] theorem ft_it212 : intT prog 212 = some .u64 := by kernel_rfl
@[go_sem] theorem ft_hz212 : hasZero prog 212 = true := by kernel_rfl
@[go_sem] theorem ft_by212 : bytesOf prog 212 = 8 := by kernel_rfl
@[go_sem] theorem ft_zo212 : zeroOf prog 212 = some (.int .u64 0) := by kernel_rfl
@[go_sem] theorem ft_sz213 : szOf prog 213 = 1 := by kernel_rfl
@[go_sem] theorem ft_pr213 : prim prog 213 = true := by kernel_rfl
@[go_sem] theorem ft_hz213 : hasZero prog 213 = true := by kernel_rfl
@[go_sem] theorem ft_by213 : bytesOf prog 213 = 8 := by kernel_rfl
@[go_sem] theorem ft_sz214 : szOf prog 214 = 1 := by kernel_rfl
@[go_sem] theorem ft_pr214 : prim prog 214 = true := by kernel_rfl
@[go_sem] theorem ft_hz214 : hasZero prog 214 = true := by kernel_rfl
@[go_sem] theorem ft_by214 : bytesOf prog 214 = 8 := by kernel_rfl
@[go_sem] theorem ft_sz215 : szOf prog 215 = 1 := by kernel_rfl
@[go_sem] theorem ft_pr215 : prim prog 215 = true := by kernel_rfl
@[go_sem] theorem ft_hz215 : hasZero prog 215 = true := by kernel_rfl
@[go_sem] theorem ft_by215 : bytesOf prog 215 = 8 := by kernel_rfl
@[go_sem] theorem ft_sz216 : szOf prog 216 = 1 := by kernel_rfl
@[go_sem] theorem ft_pr216 : prim prog 216 = true := by kernel_rfl
@[go_sem] theorem ft_pt216 : isPtrT prog 216 = true := by kernel_rfl
@[go_sem] theorem ft_hz216 : hasZero prog 216 = true := by kernel_rfl
@[go_sem] theorem ft_by216 : bytesOf prog 216 = 8 := by kernel_rfl
@[go_sem] theorem ft_zo216 : zeroOf prog 216 = some .nil := by kernel_rfl
@[go_sem] theorem ft_sz217 : szOf prog 217 = 1 := by kernel_rfl
@[go_sem] theorem ft_pr217 : prim prog 217 = true := by kernel_rfl
@[go_sem] theorem ft_hz217 : hasZero prog 217 = true := by kernel_rfl
@[go_sem] theorem ft_by217 : bytesOf prog 217 = 8 := by kernel_rfl
@[go_sem] theorem ft_sz218 : szOf prog 218 = 1 := by kernel_rfl
@[go_sem] theorem ft_pr218 : prim prog 218 = true := by kernel_rfl
@[go_sem] theorem ft_hz218 : hasZero prog 218 = true := by kernel_rfl
@[go_sem] theorem ft_by218 : bytesOf prog 218 = 0 := by kernel_rfl
@[go_sem] theorem ft_sz219 : szOf prog 219 = 1 := by kernel_rfl
@[go_sem] theorem ft_pr219 : prim prog 219 = true := by kernel_rfl
@[go_sem] theorem ft_hz219 : hasZero prog 219 = true := by kernel_rfl
@[go_sem] theorem ft_by219 : bytesOf prog 219 = 8 := by kernel_rfl
@[go_sem] theorem ft_sz220 : szOf prog 220 = 1 := by kernel_rfl
@[go_sem] theorem ft_pr220 : prim prog 220 = true := by kernel_rfl
@[go_sem] theorem ft_hz220 : hasZero prog 220 = true := by kernel_rfl
@[go_sem] theorem ft_by220 : bytesOf prog 220 = 8 := by kernel_rfl
@[go_sem] theorem ft_sz221 : szOf prog 221 = 256 := by kernel_rfl
@[go_sem] theorem ft_pr221 : prim prog 221 = false := by kernel_rfl
@[go_sem] theorem ft_hz221 : hasZero prog 221 = true := by kernel_rfl
@[go_sem] theorem ft_by221 : bytesOf prog 221 = 256 := by kernel_rfl
@[go_sem] theorem ft_ar221 : arrT prog 221 = some 4 := by kernel_rfl
@[go_sem] theorem ft_sz222 : szOf prog 222 = 256 := by kernel_rfl
@[go_sem] theorem ft_pr222 : prim prog 222 = false := by kernel_rfl
@[go_sem] theorem ft_hz222 : hasZero prog 222 = true := by kernel_rfl
@[go_sem] theorem ft_by222 : bytesOf prog 222 = 256 := by kernel_rfl
@[go_sem] theorem ft_ar222 : arrT prog 222 = some 4 := by kernel_rfl
@[go_sem] theorem ft_sz223 : szOf prog 223 = 1 := by kernel_rfl
@[go_sem] theorem ft_pr223 : prim prog 223 = true := by kernel_rfl
@[go_sem] theorem ft_hz223 : hasZero prog 223 = true := by kernel_rfl
@[go_sem] theorem ft_by223 : bytesOf prog 223 = 0 := by kernel_rfl
@[go_sem] theorem ft_sz224 : szOf prog 224 = 1 := by kernel_rfl
@[go_sem] theorem ft_pr224 : prim prog 224 = true := by kernel_rfl
@[go_sem] theorem ft_hz224 : hasZero prog 224 = true := by kernel_rfl
@[go_sem] theorem ft_by224 : bytesOf prog 224 = 8 := by kernel_rfl
@[go_sem] theorem ft_sz225 : szOf prog 225 = 1 := by kernel_rfl
@[go_sem] theorem ft_pr225 : prim prog 225 = true := by kernel_rfl
@[go_sem] theorem ft_hz225 : hasZero prog 225 = true := by kernel_rfl
@[go_sem] theorem ft_by225 : bytesOf prog 225 = 8 := by kernel_rfl
@[go_sem] theorem ft_sz226 : szOf prog 226 = 1 := by kernel_rfl
@[go_sem] theorem ft_pr226 : prim prog 226 = true := by kernel_rfl
@[go_sem] theorem ft_pt226 : isPtrT prog 226 = true := by kernel_rfl
@[go_sem] theorem ft_hz226 : hasZero prog 226 = true := by kernel_rfl
@[go_sem] theorem ft_by226 : bytesOf prog 226 = 8 := by kernel_rfl
@[go_sem] theorem ft_zo226 : zeroOf prog 226 = some .nil := by kernel_rfl
@[go_sem] theorem ft_sz227 : szOf prog 227 = 1 := by kernel_rfl
@[go_sem] theorem ft_pr227 : prim prog 227 = true := by kernel_rfl
@[go_sem] theorem ft_pt227 : isPtrT prog 227 = true := by kernel_rfl
@[go_sem] theorem ft_hz227 : hasZero prog 227 = true := by kernel_rfl
@[go_sem] theorem ft_by227 : bytesOf prog 227 = 8 := by kernel_rfl
@[go_sem] theorem ft_zo227 : zeroOf prog 227 = some .nil := by kernel_rfl
@[go_sem] theorem ft_sz228 : szOf prog 228 = 1 := by kernel_rfl
@[go_sem] theorem ft_pr228 : prim prog 228 = true := by kernel_rfl
@[go_sem] theorem ft_hz228 : hasZero prog 228 = true := by kernel_rfl
@[go_sem] theorem ft_by228 : bytesOf prog 228 = 0 := by kernel_rfl
@[go_sem] theorem ft_sz229 : szOf prog 229 = 1 := by kernel_rfl
@[go_sem] theorem ft_pr229 : prim prog 229 = true := by kernel_rfl
@[go_sem] theorem ft_hz229 : hasZero prog 229 = true := by kernel_rfl
@[go_sem] theorem ft_by229 : bytesOf prog 229 = 8 := by kernel_rfl
@[go_sem] theorem ft_sz230 : szOf prog 230 = 1 := by kernel_rfl
@[go_sem] theorem ft_pr230 : prim prog 230 = true := by kernel_rfl
@[go_sem] theorem ft_hz230 : hasZero prog 230 = true := by kernel_rfl
@[go_sem] theorem ft_by230 : bytesOf prog 230 = 0 := by kernel_rfl
@[go_sem] theorem ft_sz231 : szOf prog 231 = 1 := by kernel_rfl
@[go_sem] theorem ft_pr231 : prim prog 231 = true := by kernel_rfl
@[go_sem] theorem ft_hz231 : hasZero prog 231 = true := by kernel_rfl
@[go_sem] theorem ft_by231 : bytesOf prog 231 = 8 := by kernel_rfl
@[go_sem] theorem ft_sz232 : szOf prog 232 = 1 := by kernel_rfl
@[go_sem] theorem ft_pr232 : prim prog 232 = true := by kernel_rfl
@[go_sem] theorem ft_hz232 : hasZero prog 232 = true := by kernel_rfl
@[go_sem] theorem ft_by232 : bytesOf prog 232 = 8 := by kernel_rfl
@[go_sem] theorem ft_sz233 : szOf prog 233 = 1 := by kernel_rfl
@[go_sem] theorem ft_pr233 : prim prog 233 = true := by kernel_rfl
@[go_sem] theorem ft_hz233 : hasZero prog 233 = true := by kernel_rfl
@[go_sem] theorem ft_by233 : bytesOf prog 233 = 8 := by kernel_rfl
@[go_sem] theorem ft_sz234 : szOf prog 234 = 256 := by kernel_rfl
@[go_sem] theorem ft_pr234 : prim prog 234 = false := by kernel_rfl
@[go_sem] theorem ft_hz234 : hasZero prog 234 = true := by kernel_rfl
@[go_sem] theorem ft_by234 : bytesOf prog 234 = 256 := by kernel_rfl
@[go_sem] theorem ft_ar234 : arrT prog 234 = some 5 := by kernel_rfl
@[go_sem] theorem ft_sz235 : szOf prog 235 = 2 := by kernel_rfl
@[go_sem] theorem ft_pr235 : prim prog 235 = false := by kernel_rfl
@[go_sem] theorem ft_sc235 : isStruct prog 235 = true := by kernel_rfl
@[go_sem] theorem ft_hz235 : hasZero prog 235 = true := by kernel_rfl
@[go_sem] theorem ft_by235 : bytesOf prog 235 = 2 := by kernel_rfl
@[go_sem] theorem ft_fl235 : flds prog 235 = some [5, 5] := by kernel_rfl
@[go_sem] theorem ft_zo235 : zeroOf prog 235 = some (.agg 235 [(.int .u8 0), (.int .u8 0)]) := by kernel_rfl
@[go_sem] theorem ft_zi235 : zeroIs prog 235 = true := by kernel_rfl
@[go_sem] theorem ft_zf235 : zeroFs prog 235 = [(.int .u8 0), (.int .u8 0)] := by kernel_rfl
@[go_sem] theorem ft_sz236 : szOf prog 236 = 2 := by kernel_rfl
@[go_sem] theorem ft_pr236 : prim prog 236 = false := by kernel_rfl
@[go_sem] theorem ft_sc236 : isStruct prog 236 = true := by kernel_rfl
@[go_sem] theorem ft_hz236 : hasZero prog 236 = true := by kernel_rfl
@[go_sem] theorem ft_by236 : bytesOf prog 236 = 2 := by kernel_rfl
@[go_sem] theorem ft_fl236 : flds prog 236 = some [5, 5] := by kernel_rfl
@[go_sem] theorem ft_zo236 : zeroOf prog 236 = some (.agg 236 [(.int .u8 0), (.int .u8 0)]) := by kernel_rfl
@[go_sem] theorem ft_zi236 : zeroIs prog 236 = true := by kernel_rfl
@[go_sem] theorem ft_zf236 : zeroFs prog 236 = [(.int .u8 0), (.int .u8 0)] := by kernel_rfl
@[go_sem] theorem ft_sz237 : szOf prog 237 = 32 := by kernel_rfl
@[go_sem] theorem ft_pr237 : prim prog 237 = false := by kernel_rfl
@[go_sem] theorem ft_hz237 : hasZero prog 237 = true := by kernel_rfl
@[go_sem] theorem ft_by237 : bytesOf prog 237 = 32 := by kernel_rfl
@[go_sem] theorem ft_ar237 : arrT prog 237 = some 236 := by kernel_rfl
@[go_sem] theorem ft_fl237 : flds prog 237 = some [236, 236, 236, 236, 236, 236, 236, 236, 236, 236, 236, 236, 236, 236, 236, 236] := by kernel_rfl
@[go_sem] theorem ft_zo237 : zeroOf prog 237 = some (.agg 237 [(.agg 236 [(.int .u8 0), (.int .u8 0)]), (.agg 236 [(.int .u8 0), (.int .u8 0)]), (.agg 236 [(.int .u8 0), (.int .u8 0)]), (.agg 236 [(.int .u8 0), (.int .u8 0)]), (.agg 236 [(.int .u8 0), (.int .u8 0)]), (.agg 236 [(.int .u8 0), (.int .u8 0)]), (.agg 236 [(.int .u8 0), (.int .u8 0)]), (.agg 236 [(.int .u8 0), (.int .u8 0)]), (.agg 236 [(.int .u8 0), (.int .u8 0)]), (.agg 236 [(.int .u8 0), (.int .u8 0)]), (.agg 236 [(.int .u8 0), (.int .u8 0)]), (.agg 236 [(.int .u8 0), (.int .u8 0)]), (.agg 236 [(.int .u8 0), (.int .u8 0)]), (.agg 236 [(.int .u8 0), (.int .u8 0)]), (.agg 236 [(.int .u8 0), (.int .u8 0)]), (.agg 236 [(.int .u8 0), (.int .u8 0)])]) := by kernel_rfl
@[go_sem] theorem ft_zi237 : zeroIs prog 237 = true := by kernel_rfl
@[go_sem] theorem ft_zf237 : zeroFs prog 237 = [(.agg 236 [(.int .u8 0), (.int .u8 0)]), (.agg 236 [(.int .u8 0), (.int .u8 0)]), (.agg 236 [(.int .u8 0), (.int .u8 0)]), (.agg 236 [(.int .u8 0), (.int .u8 0)]), (.agg 236 [(.int .u8 0), (.int .u8 0)]), (.agg 236 [(.int .u8 0), (.int .u8 0)]), (.agg 236 [(.int .u8 0), (.int .u8 0)]), (.agg 236 [(.int .u8 0), (.int .u8 0)]), (.agg 236 [(.int .u8 0), (.int .u8 0)]), (.agg 236 [(.int .u8 0), (.int .u8 0)]), (.agg 236 [(.int .u8 0), (.int .u8 0)]), (.agg 236 [(.int .u8 0), (.int .u8 0)]), (.agg 236 [(.int .u8 0), (.int .u8 0)]), (.agg 236 [(.int .u8 0), (.int .u8 0)]), (.agg 236 [(.int .u8 0), (.int .u8 0)]), (.agg 236 [(.int .u8 0), (.int .u8 0)])] := by kernel_rfl
@[go_sem] theorem ft_sz238 : szOf prog 238 = 1 := by kernel_rfl
@[go_sem] theorem ft_pr238 : prim prog 238 = true := by kernel_rfl
@[go_sem] theorem ft_hz238 : hasZero prog 238 = true := by kernel_rfl
@[go_sem] theorem ft_by238 : bytesOf prog 238 = 8 := by kernel_rfl
@[go_sem] theorem ft_sz239 : szOf prog 239 = 4 := by kernel_rfl
@[go_sem] theorem ft_pr239 : prim prog 239 = false := by kernel_rfl
@[go_sem] theorem ft_sc239 : isStruct prog 239 = true := by kernel_rfl
@[go_sem] theorem ft_hz239 : hasZero prog 239 = true := by kernel_rfl
@[go_sem] theorem ft_by239 : bytesOf prog 239 = 40 := by kernel_rfl
@[go_sem] theorem ft_fl239 : flds prog 239 = some [17, 17, 17, 9] := by kernel_rfl
@[go_sem] theorem ft_zo239 : zeroOf prog 239 = some (.agg 239 [.nil, .nil, .nil, (.str [])]) := by kernel_rfl
@[go_sem] theorem ft_zi239 : zeroIs prog 239 = true := by kernel_rfl
@[go_sem] theorem ft_zf239 : zeroFs prog 239 = [.nil, .nil, .nil, (.str [])] := by kernel_rfl
@[go_sem] theorem ft_sz240 : szOf prog 240 = 4 := by kernel_rfl
@[go_sem] theorem ft_pr240 : prim prog 240 = false := by kernel_rfl
@[go_sem] theorem ft_sc240 : isStruct prog 240 = true := by kernel_rfl
@[go_sem] theorem ft_hz240 : hasZero prog 240 = true := by kernel_rfl
@[go_sem] theorem ft_by240 : bytesOf prog 240 = 40 := by kernel_rfl
@[go_sem] theorem ft_fl240 : flds prog 240 = some [17, 17, 17, 9] := by kernel_rfl
@[go_sem] theorem ft_zo240 : zeroOf prog 240 = some (.agg 240 [.nil, .nil, .nil, (.str [])]) := by kernel_rfl
@[go_sem] theorem ft_zi240 : zeroIs prog 240 = true := by kernel_rfl
@[go_sem] theorem ft_zf240 : zeroFs prog 240 = [.nil, .nil, .nil, (.str [])] := by kernel_rfl
@[go_sem] theorem ft_sz241 : szOf prog 241 = 0 := by kernel_rfl
@[go_sem] theorem ft_pr241 : prim prog 241 = false := by kernel_rfl
@[go_sem] theorem ft_hz241 : hasZero prog 241 = true := by kernel_rfl
@[go_sem] theorem ft_by241 : bytesOf prog 241 = 0 := by kernel_rfl
@[go_sem] theorem ft_ar241 : arrT prog 241 = some 16 := by kernel_rfl
@[go_sem] theorem ft_sz242 : szOf prog 242 = 0 := by kernel_rfl
@[go_sem] theorem ft_pr242 : prim prog 242 = false := by kernel_rfl
@[go_sem] theorem ft_sc242 : isStruct prog 242 = true := by kernel_rfl
@[go_sem] theorem ft_hz242 : hasZero prog 242 = true := by kernel_rfl
@[go_sem] theorem ft_by242 : bytesOf prog 242 = 0 := by kernel_rfl
@[go_sem] theorem ft_sz243 : szOf prog 243 = 0 := by kernel_rfl
@[go_sem] theorem ft_pr243 : prim prog 243 = false := by kernel_rfl
@[go_sem] theorem ft_sc243 : isStruct prog 243 = true := by kernel_rfl
@[go_sem] theorem ft_hz243 : hasZero prog 243 = true := by kernel_rfl
@[go_sem] theorem ft_by243 : bytesOf prog 243 = 0 := by kernel_rfl
@[go_sem] theorem ft_sz244 : szOf prog 244 = 1 := by kernel_rfl
@[go_sem] theorem ft_pr244 : prim prog 244 = true := by kernel_rfl
@[go_sem] theorem ft_it244 : intT prog 244 = some .u8 := by kernel_rfl
@[go_sem] theorem ft_hz244 : hasZero prog 244 = true := by kernel_rfl
@[go_sem] theorem ft_by244 : bytesOf prog 244 = 1 := by kernel_rfl
@[go_sem] theorem ft_zo244 : zeroOf prog 244 = some (.int .u8 0) := by kernel_rfl
@[go_sem] theorem ft_sz245 : szOf prog 245 = 1 := by kernel_rfl
@[go_sem] theorem ft_pr245 : prim prog 245 = true := by kernel_rfl
@[go_sem] theorem ft_it245 : intT prog 245 = some .u8 := by kernel_rfl
@[go_sem] theorem ft_hz245 : hasZero prog 245 = true := by kernel_rfl
@[go_sem] theorem ft_by245 : bytesOf prog 245 = 1 := by kernel_rfl
@[go_sem] theorem ft_zo245 : zeroOf prog 245 = some (.int .u8 0) := by kernel_rfl
@[go_sem] theorem ft_sz246 : szOf prog 246 = 1 := by kernel_rfl
@[go_sem] theorem ft_pr246 : prim prog 246 = true := by kernel_rfl
@[go_sem] theorem ft_hz246 : hasZero prog 246 = true := by kernel_rfl
@[go_sem] theorem ft_by246 : bytesOf prog 246 = 8 := by kernel_rfl
@[go_sem] theorem ft_sz247 : szOf prog 247 = 1 := by kernel_rfl
@[go_sem] theorem ft_pr247 : prim prog 247 = true := by kernel_rfl
@[go_sem] theorem ft_it247 : intT prog 247 = some .i32 := by kernel_rfl
@[go_sem] theorem ft_hz247 : hasZero prog 247 = true := by kernel_rfl
@[go_sem] theorem ft_by247 : bytesOf prog 247 = 4 := by kernel_rfl
@[go_sem] theorem ft_zo247 : zeroOf prog 247 = some (.int .i32 0) := by kernel_rfl
@[go_sem] theorem ft_sz248 : szOf prog 248 = 1 := by kernel_rfl
@[go_sem] theorem ft_pr248 : prim prog 248 = true := by kernel_rfl
@[go_sem] theorem ft_it248 : intT prog 248 = some .i32 := by kernel_rfl
@[go_sem] theorem ft_hz248 : hasZero prog 248 = true := by kernel_rfl
@[go_sem] theorem ft_by248 : bytesOf prog 248 = 4 := by kernel_rfl
@[go_sem] theorem ft_zo248 : zeroOf prog 248 = some (.int .i32 0) := by kernel_rfl
@[go_sem] theorem ft_sz249 : szOf prog 249 = 11 := by kernel_rfl
@[go_sem] theorem ft_pr249 : prim prog 249 = false := by kernel_rfl
@[go_sem] theorem ft_sc249 : isStruct prog 249 = true := by kernel_rfl
@[go_sem] theorem ft_hz249 : hasZero prog 249 = true := by kernel_rfl
@[go_sem] theorem ft_by249 : bytesOf prog 249 = 48 := by kernel_rfl
@[go_sem] theorem ft_fl249 : flds prog 249 = some [12, 12, 208, 244, 5, 5, 245, 246, 174, 247, 248] := by kernel_rfl
@[go_sem] theorem ft_sz250 : szOf prog 250 = 11 := by kernel_rfl
@[go_sem] theorem ft_pr250 : prim prog 250 = false := by kernel_rfl
@[go_sem] theorem ft_sc250 : isStruct prog 250 = true := by kernel_rfl
@[go_sem] theorem ft_hz250 : hasZero prog 250 = true := by kernel_rfl
@[go_sem] theorem ft_by250 : bytesOf prog 250 = 48 := by kernel_rfl
@[go_sem] theorem ft_fl250 : flds prog 250 = some [12, 12, 208, 244, 5, 5, 245, 246, 174, 247, 248] := by kernel_rfl
end Go.Proofs.Tryz
end
