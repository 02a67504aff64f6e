/- The Dec laws of reading, over the library's pieces. -/
import Derived.Test.YtilbahgfjfcikaaDoorB04
import Derived.Test.YtilbahgfjfcikaaDoorV04b
namespace Go.Proofs.YtilbahgfjfcikaaDoor.Eng.U
open Go Go.Proofs Go.Proofs.YtilbahgfjfcikaaDoor.Eng Go.RowKit
theorem reads04 (l : List UInt8) (h : l.length ≤ 140737488351232) : (bs ext04 2000000).kap 22 law04_DecReads [.str (str l)] = some (.bool true) :=
  decReads_true (E := ext04) (k := 2000000) (n := 0) l h (by omega)
theorem back04 (v : Int) (t : Time) (l : List UInt8) (hv : -9223372036854775808 ≤ v ∧ v ≤ 9223372036854775807) (g : G_apiTime t) (_ : l.length ≤ 140737488351232) : (bs ext04 2000000).kap 22 law04_DecBack [.int .i64 v, .agg (encTime t), .str (str l)] = some (.bool true) :=
  decBack_true (E := ext04) (k := 2000000) (n := 0) v t.sec t.nano l hv g.sec (by omega)
end Go.Proofs.YtilbahgfjfcikaaDoor.Eng.U
