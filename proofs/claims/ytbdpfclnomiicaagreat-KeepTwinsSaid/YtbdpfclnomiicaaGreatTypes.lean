/-
  What the type table says, type by type (laid by my own program).
-/
import Derived.Test.YtbdpfclnomiicaaGreatW
import Derived.Test.YtbdpfclnomiicaaGreatProg
set_option maxRecDepth 10000
namespace Go.Proofs.YtbdpfclnomiicaaGreat
open Go.Cap
instance : ZCellsC Tryz.prog 3 [.v (.int .i64 0)] := ⟨by rfl⟩
instance : ZCellsC Tryz.prog 27 [.v (.int .i64 0)] := ⟨by rfl⟩
instance : ElemSzC Tryz.prog 33 3 := ⟨by rfl⟩
instance : ElemZC Tryz.prog 33 (.agg [.v (.int .i64 0), .v (.int .i64 0), .v (.string .empty)]) 32 := ⟨by rfl⟩
instance : AggC Tryz.prog 34 5 := ⟨by rfl⟩
instance : ArrC Tryz.prog 34 5 1 := ⟨by rfl⟩
instance : ZCellsC Tryz.prog 36 [.v (.int .i64 0), .v (.int .i64 0), .v (.int .i64 0), .v (.int .i64 0), .v (.int .i64 0), .v (.int .i64 0), .v (.string .empty), .v (.slice none 0 0), .v (.int .i64 0), .v (.int .i64 0), .v (.int .i64 0), .v (.int .i64 0), .v (.int .i64 0), .v (.int .i64 0), .v (.int .i64 0), .v (.int .i64 0), .v (.int .i64 0), .v (.int .i64 0), .v (.int .i64 0), .v (.int .i64 0), .v (.int .i64 0), .v (.int .i64 0)] := ⟨by rfl⟩
instance : AggC Tryz.prog 36 22 := ⟨by rfl⟩
instance : FldC Tryz.prog 36 0 0 1 false := ⟨by rfl⟩
instance : FldC Tryz.prog 36 1 1 1 false := ⟨by rfl⟩
instance : FldC Tryz.prog 36 2 2 1 false := ⟨by rfl⟩
instance : FldC Tryz.prog 36 3 3 1 false := ⟨by rfl⟩
instance : FldC Tryz.prog 36 4 4 1 false := ⟨by rfl⟩
instance : FldC Tryz.prog 36 5 5 1 false := ⟨by rfl⟩
instance : FldC Tryz.prog 36 6 6 1 false := ⟨by rfl⟩
instance : FldC Tryz.prog 36 7 7 1 false := ⟨by rfl⟩
instance : FldC Tryz.prog 36 8 8 1 false := ⟨by rfl⟩
instance : FldC Tryz.prog 36 9 9 1 false := ⟨by rfl⟩
instance : FldC Tryz.prog 36 10 10 1 false := ⟨by rfl⟩
instance : FldC Tryz.prog 36 11 11 1 false := ⟨by rfl⟩
instance : FldC Tryz.prog 36 12 12 5 true := ⟨by rfl⟩
instance : FldC Tryz.prog 36 13 17 5 true := ⟨by rfl⟩
instance : ZCellsC Tryz.prog 39 [.v (.int .i64 0), .v (.int .i64 0), .v (.int .i64 0), .v (.int .i64 0), .v (.int .i64 0), .v (.int .i64 0), .v (.int .i64 0), .v (.int .i64 0), .v (.bool false), .v (.slice none 0 0), .v (.string .empty)] := ⟨by rfl⟩
instance : AggC Tryz.prog 39 11 := ⟨by rfl⟩
instance : FldC Tryz.prog 39 0 0 1 false := ⟨by rfl⟩
instance : FldC Tryz.prog 39 1 1 1 false := ⟨by rfl⟩
instance : FldC Tryz.prog 39 2 2 1 false := ⟨by rfl⟩
instance : FldC Tryz.prog 39 3 3 1 false := ⟨by rfl⟩
instance : FldC Tryz.prog 39 4 4 1 false := ⟨by rfl⟩
instance : FldC Tryz.prog 39 5 5 1 false := ⟨by rfl⟩
instance : FldC Tryz.prog 39 6 6 1 false := ⟨by rfl⟩
instance : FldC Tryz.prog 39 7 7 1 false := ⟨by rfl⟩
instance : FldC Tryz.prog 39 8 8 1 false := ⟨by rfl⟩
instance : FldC Tryz.prog 39 9 9 1 false := ⟨by rfl⟩
instance : FldC Tryz.prog 39 10 10 1 false := ⟨by rfl⟩
instance : AggC Tryz.prog 41 14 := ⟨by rfl⟩
instance : FldC Tryz.prog 41 0 0 1 false := ⟨by rfl⟩
instance : FldC Tryz.prog 41 1 1 1 false := ⟨by rfl⟩
instance : FldC Tryz.prog 41 2 2 11 true := ⟨by rfl⟩
instance : FldC Tryz.prog 41 3 13 1 false := ⟨by rfl⟩
instance : ZCellsC Tryz.prog 49 [.v (.pointer none), .v (.pointer none), .v (.pointer none)] := ⟨by rfl⟩
instance : ArrC Tryz.prog 49 3 1 := ⟨by rfl⟩
instance : ZCellsC Tryz.prog 50 [.v (.int .i64 0), .v (.int .i64 0), .v (.int .i64 0), .v (.int .i64 0), .v (.int .i64 0), .v (.int .i64 0), .v (.string .empty), .v (.slice none 0 0), .v (.int .i64 0), .v (.int .i64 0), .v (.int .i64 0), .v (.int .i64 0), .v (.int .i64 0), .v (.int .i64 0), .v (.int .i64 0), .v (.int .i64 0), .v (.int .i64 0), .v (.int .i64 0), .v (.int .i64 0), .v (.int .i64 0), .v (.int .i64 0), .v (.int .i64 0), .v (.int .i64 0), .v (.int .i64 0), .v (.int .i64 0), .v (.int .i64 0), .v (.int .i64 0), .v (.int .i64 0), .v (.string .empty), .v (.slice none 0 0), .v (.int .i64 0), .v (.int .i64 0), .v (.int .i64 0), .v (.int .i64 0), .v (.int .i64 0), .v (.int .i64 0), .v (.int .i64 0), .v (.int .i64 0), .v (.int .i64 0), .v (.int .i64 0), .v (.int .i64 0), .v (.int .i64 0), .v (.int .i64 0), .v (.int .i64 0)] := ⟨by rfl⟩
instance : ArrC Tryz.prog 50 2 22 := ⟨by rfl⟩
instance : ElemZC Tryz.prog 51 (.agg [.v (.int .i64 0), .v (.int .i64 0), .v (.int .i64 0), .v (.int .i64 0), .v (.int .i64 0), .v (.int .i64 0), .v (.int .i64 0), .v (.int .i64 0), .v (.bool false), .v (.slice none 0 0), .v (.string .empty)]) 112 := ⟨by rfl⟩
instance : FldC Tryz.prog 56 0 0 1 false := ⟨by rfl⟩
instance : FldC Tryz.prog 56 1 1 1 false := ⟨by rfl⟩
instance : FldC Tryz.prog 56 2 2 1 false := ⟨by rfl⟩
instance : ZCellsC Tryz.prog 57 [.v (.slice none 0 0)] := ⟨by rfl⟩
instance : ElemSzC Tryz.prog 57 1 := ⟨by rfl⟩
instance : ElemZC Tryz.prog 57 (.v (.int .u8 0)) 1 := ⟨by rfl⟩
instance : ZCellsC Tryz.prog 59 [.v (.int .i64 0), .v (.int .i64 0), .v (.bool false), .v (.slice none 0 0), .v (.int .i64 0), .v (.slice none 0 0), .v (.int .i64 0)] := ⟨by rfl⟩
instance : FldC Tryz.prog 59 0 0 3 true := ⟨by rfl⟩
instance : FldC Tryz.prog 59 1 3 1 false := ⟨by rfl⟩
instance : FldC Tryz.prog 59 2 4 1 false := ⟨by rfl⟩
instance : FldC Tryz.prog 59 3 5 1 false := ⟨by rfl⟩
instance : FldC Tryz.prog 59 4 6 1 false := ⟨by rfl⟩
instance : ZCellsC Tryz.prog 62 [.v (.int .i64 0), .v (.int .i64 0), .v (.string .empty)] := ⟨by rfl⟩
instance : AggC Tryz.prog 62 3 := ⟨by rfl⟩
instance : FldC Tryz.prog 62 0 0 1 false := ⟨by rfl⟩
instance : FldC Tryz.prog 62 1 1 1 false := ⟨by rfl⟩
instance : FldC Tryz.prog 62 2 2 1 false := ⟨by rfl⟩
instance : ZCellsC Tryz.prog 63 [.v (.pointer none)] := ⟨by rfl⟩
instance : ZCellsC Tryz.prog 64 [.v (.slice none 0 0)] := ⟨by rfl⟩
instance : ElemZC Tryz.prog 64 (.v (.slice none 0 0)) 24 := ⟨by rfl⟩
instance : ZCellsC Tryz.prog 69 [.v (.pointer none), .v (.int .i64 0), .v (.int .i64 0), .v (.int .i64 0), .v (.int .i64 0), .v (.int .i64 0), .v (.int .i64 0), .v (.string .empty), .v (.slice none 0 0), .v (.int .i64 0), .v (.int .i64 0), .v (.int .i64 0), .v (.int .i64 0), .v (.int .i64 0), .v (.int .i64 0), .v (.int .i64 0), .v (.int .i64 0), .v (.int .i64 0), .v (.int .i64 0), .v (.int .i64 0), .v (.int .i64 0), .v (.int .i64 0), .v (.int .i64 0)] := ⟨by rfl⟩
instance : FldC Tryz.prog 69 0 0 1 false := ⟨by rfl⟩
instance : FldC Tryz.prog 69 1 1 22 true := ⟨by rfl⟩
instance : ZCellsC Tryz.prog 71 [.v (.pointer none), .v (.int .i64 0), .v (.int .i64 0), .v (.int .i64 0), .v (.int .i64 0), .v (.int .i64 0), .v (.int .i64 0), .v (.string .empty), .v (.slice none 0 0), .v (.int .i64 0), .v (.int .i64 0), .v (.int .i64 0), .v (.int .i64 0), .v (.int .i64 0), .v (.int .i64 0), .v (.int .i64 0), .v (.int .i64 0), .v (.int .i64 0), .v (.int .i64 0), .v (.int .i64 0), .v (.int .i64 0), .v (.int .i64 0), .v (.int .i64 0)] := ⟨by rfl⟩
instance : FldC Tryz.prog 71 0 0 23 true := ⟨by rfl⟩
instance : ZCellsC Tryz.prog 88 [.v (.int .i64 0), .v (.int .i64 0), .v (.int .i64 0), .v (.int .i64 0), .v (.int .i64 0), .v (.int .i64 0), .v (.int .i64 0), .v (.int .i64 0), .v (.int .i64 0), .v (.int .i64 0), .v (.int .i64 0), .v (.int .i64 0), .v (.int .i64 0), .v (.int .i64 0), .v (.int .i64 0), .v (.int .i64 0), .v (.int .i64 0), .v (.int .i64 0), .v (.int .i64 0), .v (.int .i64 0)] := ⟨by rfl⟩
instance : AggC Tryz.prog 88 20 := ⟨by rfl⟩
instance : ZCellsC Tryz.prog 101 [.v (.pointer none), .v (.int .i64 0)] := ⟨by rfl⟩
instance : FldC Tryz.prog 101 0 0 1 false := ⟨by rfl⟩
instance : FldC Tryz.prog 101 1 1 1 false := ⟨by rfl⟩
instance : ZCellsC Tryz.prog 109 [.v (.int .i64 0), .v (.int .i64 0), .v (.int .i64 0), .v (.int .i64 0), .v (.int .i64 0), .v (.int .i64 0), .v (.string .empty), .v (.slice none 0 0), .v (.int .i64 0), .v (.int .i64 0), .v (.int .i64 0), .v (.int .i64 0), .v (.int .i64 0), .v (.int .i64 0), .v (.int .i64 0), .v (.int .i64 0), .v (.int .i64 0), .v (.int .i64 0), .v (.int .i64 0), .v (.int .i64 0), .v (.int .i64 0), .v (.int .i64 0), .v (.slice none 0 0)] := ⟨by rfl⟩
instance : FldC Tryz.prog 109 0 0 22 true := ⟨by rfl⟩
instance : FldC Tryz.prog 109 1 22 1 false := ⟨by rfl⟩
instance : ZCellsC Tryz.prog 125 [.v (.slice none 0 0), .v (.int .i64 0)] := ⟨by rfl⟩
instance : FldC Tryz.prog 125 0 0 1 false := ⟨by rfl⟩
instance : FldC Tryz.prog 125 1 1 1 false := ⟨by rfl⟩
instance : ZCellsC Tryz.prog 140 [.v (.int .u32 0)] := ⟨by rfl⟩
instance : ElemZC Tryz.prog 147 (.v (.int .i64 0)) 8 := ⟨by rfl⟩
end Go.Proofs.YtbdpfclnomiicaaGreat
